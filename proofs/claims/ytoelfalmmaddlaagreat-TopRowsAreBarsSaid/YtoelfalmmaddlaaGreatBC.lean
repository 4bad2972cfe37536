/- What the table of crosscuts works with: its states in memory, its operations on bits, its rows of numbers. -/
import Derived.Test.YtoelfalmmaddlaaGreatBK
import Derived.Test.YtoelfalmmaddlaaGreatRR
set_option linter.unusedVariables false
set_option linter.unusedSimpArgs false
namespace Go.Proofs.YtoelfalmmaddlaaGreat
open Go Go.RowKit Go.Sort Go.Lib

/-! Bits. -/
theorem bv_and_one (x : Nat) (hx : x < 2 ^ 63) : ((BitVec.ofInt 64 (x : Int) &&& BitVec.ofInt 64 1).toNat) = x % 2 := by
 rw [BitVec.ofInt_natCast, show (BitVec.ofInt 64 1) = BitVec.ofNat 64 1 from rfl, BitVec.toNat_and, BitVec.toNat_ofNat, BitVec.toNat_ofNat]
 rw [Nat.mod_eq_of_lt (by omega), show 1 % 2 ^ 64 = 1 from rfl, Nat.and_one_is_mod]
theorem bv_clr (S i : Nat) (hS : S < 2 ^ 63) (hi : i < 63) (hb : S.testBit i = true) : ((BitVec.ofInt 64 (S : Int) &&& ~~~ BitVec.ofInt 64 ((2 ^ i : Nat) : Int)).toNat) = S ^^^ 2 ^ i := by
 have h2 : 2 ^ i < 2 ^ 64 := Nat.pow_lt_pow_right (by omega) (by omega)
 rw [BitVec.ofInt_natCast, BitVec.ofInt_natCast]
 refine Nat.eq_of_testBit_eq fun j => ?_
 rw [BitVec.testBit_toNat, BitVec.getLsbD_and, BitVec.getLsbD_not, BitVec.getLsbD_ofNat, BitVec.getLsbD_ofNat, Nat.testBit_xor, Nat.testBit_two_pow]
 by_cases hj : j < 64
 ·by_cases e : i = j
  ·subst e; simp [hj, hb]
  ·simp [hj, e]
 ·have hs : S.testBit j = false := Nat.testBit_lt_two_pow (Nat.lt_of_lt_of_le hS (Nat.pow_le_pow_right (by omega) (by omega)))
  have e : ¬ i = j := by omega
  simp [hj, hs, e]
theorem bit_div (S i : Nat) : S / 2 ^ i % 2 = if S.testBit i = true then 1 else 0 := by
 rw [Nat.testBit_eq_decide_div_mod_eq]
 by_cases h : S / 2 ^ i % 2 = 1
 ·simp [h]
 ·have : S / 2 ^ i % 2 = 0 := by omega
  simp [this]

theorem and_bit (S i : Nat) (hS : S < 2 ^ 62) : Go.bits .and .i64 ((S : Int) / 2 ^ i) 1 = ((S / 2 ^ i % 2 : Nat) : Int) := by
 have h1 := bv_and_one (S / 2 ^ i) (Nat.lt_of_le_of_lt (Nat.div_le_self S (2 ^ i)) (by omega))
 have h2 : (S : Int) / 2 ^ i = ((S / 2 ^ i : Nat) : Int) := by push_cast; rfl
 rw [h2]
 show IntKind.i64.wrap ((BitVec.ofInt 64 ((S / 2 ^ i : Nat) : Int) &&& BitVec.ofInt 64 1).toNat : Int) = _
 rw [h1]
 exact IntWalk.i64_in _ (by omega)
theorem pow_64 {i : Nat} (hi : i ≤ 10) : wrap64 (2 ^ i) = ((2 ^ i : Nat) : Int) := by
 have h1 : 2 ^ i ≤ 2 ^ 10 := Nat.pow_le_pow_right (by omega) hi
 have h2 : ((2 : Int) ^ i) = ((2 ^ i : Nat) : Int) := by push_cast; rfl
 rw [h2]
 clear h2
 generalize 2 ^ i = M at *
 exact IntWalk.wrap64_in _ (by omega)
theorem clr_bit (S i : Nat) (hS : S < 2 ^ 62) (hi : i ≤ 10) (hb : S.testBit i = true) : Go.bits .andNot .i64 (S : Int) (wrap64 (2 ^ i)) = ((S ^^^ 2 ^ i : Nat) : Int) := by
 have h1 := bv_clr S i (by omega) (by omega) hb
 have h2 := clr_lt hb
 rw [pow_64 hi]
 show IntKind.i64.wrap ((BitVec.ofInt 64 (S : Int) &&& ~~~ BitVec.ofInt 64 ((2 ^ i : Nat) : Int)).toNat : Int) = _
 rw [h1]
 exact IntWalk.i64_in _ (by omega)

/-! States, as they lie. -/
def cellsS (s : Sta) : List Value := [.int .i64 s.bars, .int .i64 s.used, .int .i64 s.last]
theorem cellsS_len (s : Sta) : (cellsS s).length = 3 := rfl
theorem own_putS {w : World} {base e n g cap : Nat} {l : List Sta} {i : Nat} (q : Sta) (h : w.ownsRow base e 3 (.slice (some ⟨g, 0, none⟩) n cap) n (l.flatMap cellsS)) (hi : i < l.length) :
    (((w.setCell ⟨g, i * 3, none⟩ (.int .i64 q.bars)).setCell ⟨g, i * 3 + 1, none⟩ (.int .i64 q.used)).setCell ⟨g, i * 3 + 2, none⟩ (.int .i64 q.last)).ownsRow base e 3 (.slice (some ⟨g, 0, none⟩) n cap) n ((l.set i q).flatMap cellsS) := by
 have h0 := own_setCell (c := 0) (x' := ⟨q.bars, l[i].used, l[i].last⟩) (u := .int .i64 q.bars) cellsS_len h (by decide) hi (by decide) rfl
 have h1 := own_setCell (c := 1) (i := i) (x' := ⟨q.bars, q.used, l[i].last⟩) (u := .int .i64 q.used) cellsS_len h0 (by decide) (by simpa using hi) (by decide) (by rw [List.getElem_set_self]; rfl)
 rw [List.set_set] at h1
 have h2 := own_setCell (c := 2) (i := i) (x' := ⟨q.bars, q.used, q.last⟩) (u := .int .i64 q.last) cellsS_len h1 (by decide) (by simpa using hi) (by decide) (by rw [List.getElem_set_self]; rfl)
 rw [List.set_set] at h2
 exact h2
theorem own_getS {w : World} {base e n g cap : Nat} {l : List Sta} {i : Nat} (h : w.ownsRow base e 3 (.slice (some ⟨g, 0, none⟩) n cap) n (l.flatMap cellsS)) (hi : i < l.length) :
    (w.cell? ⟨g, i * 3, none⟩ = some (.int .i64 l[i].bars) ∧ w.cell? ⟨g, i * 3 + 1, none⟩ = some (.int .i64 l[i].used) ∧ w.cell? ⟨g, i * 3 + 2, none⟩ = some (.int .i64 l[i].last)) ∧
     (w.frozen? ⟨g, i * 3, none⟩ = false ∧ w.frozen? ⟨g, i * 3 + 1, none⟩ = false ∧ w.frozen? ⟨g, i * 3 + 2, none⟩ = false) := by
 obtain ⟨g', cap', hv, _, _, _, _, _, hc⟩ := own_cells cellsS_len h (by rintro rfl; simp at hi) (by decide)
 injection hv with ha _ _
 injection ha with ha
 injection ha with ha
 subst ha
 have c0 := hc i hi 0 (by decide)
 have c1 := hc i hi 1 (by decide)
 have c2 := hc i hi 2 (by decide)
 exact ⟨⟨c0.1, c1.1, c2.1⟩, ⟨c0.2, c1.2, c2.2⟩⟩
theorem flat_zeroS (n : Nat) : (List.replicate n (⟨0, 0, 0⟩ : Sta)).flatMap cellsS = List.replicate (n * 3) (.int .i64 0) := by
 induction n with
 | zero => rfl
 | succ n ih => rw [List.replicate_succ, List.flatMap_cons, ih, show cellsS ⟨0, 0, 0⟩ = List.replicate 3 (.int .i64 0) from rfl, List.replicate_append_replicate]; congr 1; omega
theorem made_toListS (n : Nat) : (madeCells #[.int .i64 0, .int .i64 0, .int .i64 0] n).toList = List.replicate n (.int .i64 0) := by
 apply List.ext_getElem
 ·simp [madeCells]
 ·intro j h1 h2
  simp only [madeCells, Array.toList_map, List.getElem_map, List.getElem_replicate]
  have h3 : j % 3 < 3 := Nat.mod_lt _ (by decide)
  have : j % 3 = 0 ∨ j % 3 = 1 ∨ j % 3 = 2 := by omega
  simp
  rcases this with h | h | h <;> simp [h]
theorem state_info : (Tryz.prog.info? 88).map (fun i => (i.zero, i.size, i.bytes)) = some (some (.agg #[.int .i64 0, .int .i64 0, .int .i64 0]), 3, 24) := by kernel_rfl
theorem ints_info : (Tryz.prog.info? 44).map (fun i => (i.zero, i.size, i.bytes)) = some (some (.slice none 0 0), 1, 24) := by kernel_rfl
theorem make_states (W : World) (n : Nat) (hn : n ≤ 100000) : (Instr.makeSlice 89 (.int .i64 (n : Int)) (.int .i64 (n : Int))).run Tryz.prog W = .ok (.slice (some ⟨W.heap.size, 0, none⟩) n n) (W.alloc (.cells (madeCells #[.int .i64 0, .int .i64 0, .int .i64 0] (n * 3)) 88)) := by
 obtain ⟨n0, hn0, hx0, hx1, hx2⟩ := info_parts state_info
 have := run_make (P := Tryz.prog) W 89 88 n0 (.agg #[.int .i64 0, .int .i64 0, .int .i64 0]) Tryz.underlying89 hn0 hx0 .i64 .i64 (n : Int) (n : Int) (by omega) (Int.le_refl _) (by rw [hx2]; omega) (by omega)
 rw [this]
 simp [hx1, Value.cells]
theorem made_states {w : World} {base n : Nat} {T : TypeId} (hb : base ≤ w.heap.size) (hn : n ≤ maxLen) : (w.alloc (.cells (madeCells #[.int .i64 0, .int .i64 0, .int .i64 0] (n * 3)) T)).ownsRow base T 3 (.slice (some ⟨w.heap.size, 0, none⟩) n n) n ((List.replicate n (⟨0, 0, 0⟩ : Sta)).flatMap cellsS) := by
 refine ⟨by rw [flat_zeroS]; simp, .inr ⟨w.heap.size, n, madeCells #[.int .i64 0, .int .i64 0, .int .i64 0] (n * 3), rfl, hb, heap_alloc_new w _, Nat.le_refl _, hn, by simp [size_madeCells], ?_⟩⟩
 rw [made_toListS, flat_zeroS, List.take_of_length_le (by simp)]
theorem make_lists (W : World) (n : Nat) (hn : n ≤ 100000) : (Instr.makeSlice 57 (.int .i64 (n : Int)) (.int .i64 (n : Int))).run Tryz.prog W = .ok (.slice (some ⟨W.heap.size, 0, none⟩) n n) (W.alloc (.cells (madeCells #[.slice none 0 0] n) 44)) := by
 obtain ⟨n0, hn0, hx0, hx1, hx2⟩ := info_parts ints_info
 have := run_make (P := Tryz.prog) W 57 44 n0 (.slice none 0 0) Tryz.underlying57 hn0 hx0 .i64 .i64 (n : Int) (n : Int) (by omega) (Int.le_refl _) (by rw [hx2]; omega) (by omega)
 rw [this]
 simp [hx1, Value.cells]
theorem shl_one {n N : Nat} (h : N = 2 ^ n) (hn : n ≤ 10) : IntKind.i64.wrap (1 * 2 ^ (min (n : Int).toNat 64)) = (N : Int) := by
 rw [Int.toNat_natCast, Nat.min_eq_left (by omega), Int.one_mul, h]
 have h1 : 2 ^ n ≤ 2 ^ 10 := Nat.pow_le_pow_right (by omega) hn
 rw [show ((2 : Int) ^ n) = ((2 ^ n : Nat) : Int) by push_cast; rfl]
 exact IntWalk.i64_in _ (by omega)
theorem own_blkK {w : World} {base e k n g cap : Nat} {xs : List Value} (h : w.ownsRow base e k (.slice (some ⟨g, 0, none⟩) n cap) n xs) : base ≤ g ∧ g < w.heap.size := h.lt g rfl
theorem shl_64 {n N : Nat} (h : N = 2 ^ n) (hn : n ≤ 10) : wrap64 (2 ^ n) = (N : Int) := by
 have h1 : 2 ^ n ≤ 2 ^ 10 := Nat.pow_le_pow_right (by omega) hn
 rw [h, show ((2 : Int) ^ n) = ((2 ^ n : Nat) : Int) by push_cast; rfl]
 exact IntWalk.wrap64_in _ (by omega)
/-! The table while it grows. -/
section
variable (F ln : List Int) (kerf : Int)
def tabL (N S : Nat) : List Sta := dpL F ln kerf (S - 1) ++ List.replicate (N - S) ⟨0, 0, 0⟩
theorem tabL_len {N S : Nat} (h1 : 1 ≤ S) (h2 : S ≤ N) : (tabL F ln kerf N S).length = N := by unfold tabL; rw [List.length_append, dpL_len, List.length_replicate]; omega
theorem tabL_one {N : Nat} (h : 1 ≤ N) : tabL F ln kerf N 1 = List.replicate N ⟨0, 0, 0⟩ := by
 obtain ⟨m, rfl⟩ : ∃ m, N = m + 1 := ⟨N - 1, by omega⟩
 rw [List.replicate_succ]; rfl
theorem tabL_all {N : Nat} : tabL F ln kerf N N = dpL F ln kerf (N - 1) := by unfold tabL; simp
theorem tabL_next {N S : Nat} (h1 : 1 ≤ S) (h2 : S < N) : (tabL F ln kerf N S).set S (bestI F ln kerf (dpL F ln kerf (S - 1)) S ln.length) = tabL F ln kerf N (S + 1) := by
 obtain ⟨k, rfl⟩ : ∃ k, S = k + 1 := ⟨S - 1, by omega⟩
 obtain ⟨m, rfl⟩ : ∃ m, N = k + 1 + (m + 1) := ⟨N - (k + 2), by omega⟩
 unfold tabL
 simp only [Nat.add_sub_cancel]
 rw [show k + 1 + (m + 1) - (k + 1) = m + 1 by omega, show k + 1 + (m + 1) - (k + 1 + 1) = m by omega, List.replicate_succ, dpL, List.set_append_right _ _ (by rw [dpL_len]; exact Nat.le_refl _), dpL_len, Nat.sub_self, List.set_cons_zero, List.append_assoc, List.singleton_append]
theorem tabL_get {N S j : Nat} (h1 : 1 ≤ S) (hj : j < S) (b : Sta) : ((tabL F ln kerf N S).set S b).getD j (nev F) = (dpL F ln kerf (S - 1)).getD j (nev F) := by
 rw [List.getD_eq_getElem?_getD, List.getElem?_set_ne (by omega), List.getD_eq_getElem?_getD]
 unfold tabL
 rw [List.getElem?_append_left (by rw [dpL_len]; omega)]
end
/-- What a step does to the best of a set. -/
def roundS (F ln : List Int) (kerf : Int) (p b : Sta) (i : Nat) : Sta := if p = nev F then b else match stepS F ln kerf p i with | none => b | some u => if ltS u b = true then u else b
theorem bestI_clear {F ln : List Int} {kerf : Int} {L : List Sta} {S i : Nat} (h : S.testBit i = false) : bestI F ln kerf L S (i + 1) = bestI F ln kerf L S i := by rw [bestI, if_neg (by simp [h])]
theorem bestI_set {F ln : List Int} {kerf : Int} {L : List Sta} {S i : Nat} (h : S.testBit i = true) : bestI F ln kerf L S (i + 1) = roundS F ln kerf (L.getD (S ^^^ 2 ^ i) (nev F)) (bestI F ln kerf L S i) i := by rw [bestI, if_pos h]; rfl
/-! What the states hold. -/
structure StaOk (B : Nat) (s : Sta) : Prop where
 bars : s.bars ≤ B + 1
 used : 0 ≤ s.used ∧ s.used ≤ 1000000
 last : s.last ≤ 100
theorem bestI_ok {F ln : List Int} {kerf : Int} {L : List Sta} {S : Nat} (hF : ∀ x ∈ F, 0 ≤ x ∧ x ≤ 600000) (hln : ∀ x ∈ ln, 0 ≤ x ∧ x ≤ 600000) (hk : 0 ≤ kerf ∧ kerf ≤ 10000) (hL : ∀ s ∈ L, StaOk F.length s) : ∀ i, i ≤ 100 → StaOk F.length (bestI F ln kerf L S i)
 | 0, _ => ⟨by simp [bestI, nev], by simp [bestI, nev], by simp [bestI, nev]⟩
 | i + 1, hi => by
  have ih := bestI_ok hF hln hk hL (S := S) i (by omega)
  by_cases h : S.testBit i = true
  ·rw [bestI_set h]
   unfold roundS
   split
   ·exact ih
   ·rename_i hne
    have hp : StaOk F.length (L.getD (S ^^^ 2 ^ i) (nev F)) := by
     rw [List.getD_eq_getElem?_getD]
     cases hg : L[S ^^^ 2 ^ i]? with
     | none => exact ⟨by simp [nev], by simp [nev], by simp [nev]⟩
     | some s => exact hL s (List.mem_of_getElem? hg)
    generalize L.getD (S ^^^ 2 ^ i) (nev F) = p at *
    split
    ·exact ih
    ·rename_i u hu
     split
     ·obtain ⟨p1, p2, p3⟩ := hp
      have hm : ∀ l : List Int, (∀ x ∈ l, 0 ≤ x ∧ x ≤ 600000) → ∀ j, 0 ≤ l.getD j 0 ∧ l.getD j 0 ≤ 600000 := fun l hl j => by
       rw [List.getD_eq_getElem?_getD]
       cases hg : l[j]? with
       | none => simp
       | some x => exact hl x (List.mem_of_getElem? hg)
      have h1 := hm ln hln i
      have h2 := hm F hF (p.bars - 1)
      unfold stepS at hu
      split at hu
      ·split at hu
       ·cases hu
       ·injection hu with hu; subst hu; exact ⟨by simp only; omega, by simp only; omega, by simp only; omega⟩
      ·injection hu with hu; subst hu; exact ⟨by simp only; omega, by simp only; omega, by simp only; omega⟩
     ·exact ih
  ·rw [bestI_clear (by simpa using h)]; exact ih
theorem dpL_ok {F ln : List Int} {kerf : Int} (hF : ∀ x ∈ F, 0 ≤ x ∧ x ≤ 600000) (hln : ∀ x ∈ ln, 0 ≤ x ∧ x ≤ 600000) (hk : 0 ≤ kerf ∧ kerf ≤ 10000) (hl : ln.length ≤ 100) : ∀ k, ∀ s ∈ dpL F ln kerf k, StaOk F.length s
 | 0, s, hs => by
  rw [dpL, List.mem_singleton] at hs
  subst hs
  exact ⟨by simp, by simp, by simp⟩
 | k + 1, s, hs => by
  rw [dpL, List.mem_append, List.mem_singleton] at hs
  rcases hs with hs | rfl
  ·exact dpL_ok hF hln hk hl k s hs
  ·exact bestI_ok hF hln hk (fun s h => dpL_ok hF hln hk hl k s h) _ hl
/-! Rows of numbers, each in its cell. -/
section
variable {w w' : World} {base : Nat} {L : List Slot} {V : Nat → Value} {St : Addr → Value → Prop}
/-- The row of a slot is put anew. -/
theorem Owned.renew (h : Owned w base L V St) {i : Nat} {s : Slot} {v' : Value} {ys : List Value} {m : Nat} (hi : L[i]? = some s)
    (ho : w'.ownsRow base s.e s.k v' m ys) (hg : w.grownBy w' (V i).ownBlock) (hv : v'.ownBlock = (V i).ownBlock ∨ v'.ownBlock = some w.heap.size) :
    Owned w' base (L.set i { s with xs := ys }) (upd V i v') St ∧ ∀ (j : Nat) (t : Slot) (a : Addr), L[j]? = some t → t.a = some a → w'.cell? a = w.cell? a := by
 have hget := fun {j : Nat} {t : Slot} => set_get (s' := { s with xs := ys }) hi rfl (j := j) (t := t)
 have hnew : ∀ {j : Nat} {t0 : Slot} {g : Nat}, L[j]? = some t0 → (upd V i v' j).ownBlock = some g → (V j).ownBlock = some g ∨ (j = i ∧ g = w.heap.size) := by
  intro j t0 g hj hgj
  by_cases he : j = i
  ·subst he
   rw [upd_same] at hgj
   rcases hv with hv | hv
   ·rw [hv] at hgj; exact .inl hgj
   ·rw [hv] at hgj; injection hgj with hgj; exact .inr ⟨rfl, hgj.symm⟩
  ·rw [upd_ne _ _ he] at hgj; exact .inl hgj
 have hcell : ∀ {a : Addr}, (w.cell? a).isSome = true → (V i).ownBlock ≠ some a.block → w'.cell? a = w.cell? a ∧ w'.frozen? a = w.frozen? a := by
  intro a ha hne
  obtain ⟨u, hu⟩ := Option.isSome_iff_exists.1 ha
  have := hg.block a.block (block_lt_of_cell hu) (fun e => hne e.symm)
  exact ⟨World.cell?_of_block this, World.frozen?_of_block this⟩
 have hb := h.bound
 refine ⟨⟨fun j t hj => ?_, fun j t a hj hta => ?_, fun j k t u a hj hk hjk hta => ?_, fun j k t u g hj hk hjk hgj => ?_, fun j k t u a hj hk hua => ?_, fun a v hst => ?_⟩, fun j t a hj hta => ?_⟩
 ·obtain ⟨t0, h0, _, h2, h3⟩ := hget hj
  by_cases he : j = i
  ·obtain ⟨rfl, rfl⟩ := h2 he
   subst he
   rw [upd_same]
   exact ⟨m, ho⟩
  ·rw [upd_ne _ _ he]
   obtain rfl := h3 he
   obtain ⟨n, hn⟩ := h.own j t h0
   refine ⟨n, hn.kept hg ?_⟩
   cases hgj : (V j).ownBlock with
   | none => exact .inl rfl
   | some g => exact .inr fun e => h.rows j i t s g h0 hi he hgj e.symm
 ·obtain ⟨t0, h0, h1, _, _⟩ := hget hj
  rw [h1] at hta
  obtain ⟨k1, k2, k3, k4⟩ := h.slot j t0 a h0 hta
  obtain ⟨q1, q2⟩ := hcell k4 (h.off i j s t0 a hi h0 hta)
  exact ⟨k1, k2, by rw [q2]; exact k3, by rw [q1]; exact k4⟩
 ·obtain ⟨t0, h0, h1, _, _⟩ := hget hj
  obtain ⟨u0, g0, g1, _, _⟩ := hget hk
  rw [h1] at hta
  rw [g1]
  exact h.slots j k t0 u0 a h0 g0 hjk hta
 ·obtain ⟨t0, h0, h1, _, _⟩ := hget hj
  obtain ⟨u0, g0, g1, _, _⟩ := hget hk
  intro hgk
  rcases hnew h0 hgj with a1 | ⟨a1, a2⟩
  ·rcases hnew g0 hgk with b1 | ⟨b1, b2⟩
   ·exact h.rows j k t0 u0 g h0 g0 hjk a1 b1
   ·have := (hb j t0 h0).2 g a1
    omega
  ·rcases hnew g0 hgk with b1 | ⟨b1, b2⟩
   ·have := (hb k u0 g0).2 g b1
    omega
   ·exact hjk (a1.trans b1.symm)
 ·obtain ⟨t0, h0, h1, _, _⟩ := hget hj
  obtain ⟨u0, g0, g1, _, _⟩ := hget hk
  rw [g1] at hua
  intro hgj
  rcases hnew h0 hgj with a1 | ⟨a1, a2⟩
  ·exact h.off j k t0 u0 a h0 g0 hua a1
  ·have := (hb k u0 g0).1 a hua
   omega
 ·obtain ⟨h1, h2, h3⟩ := h.st a v hst
  refine ⟨h1, by rw [(hcell (by rw [h2]; rfl) (h3 i s hi).2).1]; exact h2, fun j t hj => ?_⟩
  obtain ⟨t0, h0, h4, _, _⟩ := hget hj
  refine ⟨by rw [h4]; exact (h3 j t0 h0).1, fun hgj => ?_⟩
  rcases hnew h0 hgj with a1 | ⟨a1, a2⟩
  ·exact (h3 j t0 h0).2 a1
  ·have := block_lt_of_cell h2
   omega
 ·exact (hcell (h.slot j t a hj hta).2.2.2 (h.off i j s t a hi hj hta)).1
/-- The row in a slot's cell is put in another order. -/
theorem Desk.renew (h : Desk w base L St) {i : Nat} {s : Slot} {a : Addr} {v : Value} {ys : List Value} {m : Nat} (hi : L[i]? = some s) (ha : s.a = some a) (hv : w.cell? a = some v) (ho : w'.ownsRow base s.e s.k v m ys) (hg : w.grownBy w' v.ownBlock) :
    Desk w' base (L.set i { s with xs := ys }) St := by
 obtain ⟨V, g1, g2⟩ := h.ex
 have hvi := g2 i s a hi ha
 rw [hv] at hvi
 injection hvi with hvi
 subst hvi
 obtain ⟨q1, q2⟩ := g1.renew hi ho hg (.inl rfl)
 refine ⟨V, ?_, fun j t b hj hb => ?_⟩
 ·have e : upd V i (V i) = V := by
    funext j
    by_cases he : j = i
    ·subst he; rw [upd_same]
    ·rw [upd_ne _ _ he]
  rw [e] at q1
  exact q1
 ·obtain ⟨t0, h0, h1, _, _⟩ := set_get (s' := { s with xs := ys }) hi rfl hj
  rw [h1] at hb
  rw [q2 j t0 b h0 hb]
  exact g2 j t0 b h0 hb
end
abbrev slotN (a : Addr) (xs : List Nat) : Slot := ⟨some a, 3, 1, (xs.map fun i : Nat => (i : Int)).map (Value.int .i64)⟩
def slotsN (g : Nat) : Nat → List (List Nat) → List Slot
 | _, [] => []
 | j, x :: r => slotN ⟨g, j, none⟩ x :: slotsN g (j + 1) r
theorem slotsN_get {g : Nat} : ∀ {rows : List (List Nat)} {j i : Nat} {x : List Nat}, rows[i]? = some x → (slotsN g j rows)[i]? = some (slotN ⟨g, j + i, none⟩ x)
 | [], _, _, _, h => by simp at h
 | y :: r, j, 0, x, h => by simp only [List.getElem?_cons_zero, Option.some.injEq] at h; subst h; rfl
 | y :: r, j, i + 1, x, h => by
  simp only [List.getElem?_cons_succ] at h
  rw [slotsN, List.getElem?_cons_succ, slotsN_get h]
  rw [show j + 1 + i = j + (i + 1) by omega]
theorem slotsN_of {g : Nat} : ∀ {rows : List (List Nat)} {j i : Nat} {s : Slot}, (slotsN g j rows)[i]? = some s → ∃ x, rows[i]? = some x ∧ s = slotN ⟨g, j + i, none⟩ x
 | [], _, _, _, h => by simp [slotsN] at h
 | y :: r, j, 0, s, h => by
  simp only [slotsN, List.getElem?_cons_zero, Option.some.injEq] at h
  exact ⟨y, rfl, h.symm⟩
 | y :: r, j, i + 1, s, h => by
  simp only [slotsN, List.getElem?_cons_succ] at h
  obtain ⟨x, h1, h2⟩ := slotsN_of h
  exact ⟨x, h1, by rw [h2, show j + 1 + i = j + (i + 1) by omega]⟩
theorem slotsN_set {g : Nat} : ∀ {rows : List (List Nat)} {j i : Nat} {x : List Nat}, (slotsN g j rows).set i (slotN ⟨g, j + i, none⟩ x) = slotsN g j (rows.set i x)
 | [], _, _, _ => rfl
 | y :: r, j, 0, x => rfl
 | y :: r, j, i + 1, x => by
  rw [slotsN, List.set_cons_succ, List.set_cons_succ, slotsN, show j + (i + 1) = j + 1 + i by omega, slotsN_set]
/-- New rows, all empty. -/
theorem desk_none {w : World} {base g n : Nat} (hb : base ≤ g) (hc : ∀ i, i < n → w.cell? ⟨g, i, none⟩ = some (.slice none 0 0) ∧ w.frozen? ⟨g, i, none⟩ = false) : Desk w base (slotsN g 0 (List.replicate n [])) (fun _ _ => False) := by
 have hx : ∀ {i : Nat} {s : Slot}, (slotsN g 0 (List.replicate n []))[i]? = some s → i < n ∧ s = slotN ⟨g, i, none⟩ [] := fun {i s} hi => by
  obtain ⟨x, h1, h2⟩ := slotsN_of hi
  rw [List.getElem?_replicate] at h1
  split at h1
  ·rename_i hlt
   injection h1 with h1
   subst h1
   exact ⟨hlt, by rw [h2, Nat.zero_add]⟩
  ·cases h1
 refine ⟨fun _ => .slice none 0 0, ⟨fun i s hi => ?_, fun i s a hi ha => ?_, fun i j s t a hi hj hij ha => ?_, fun i j s t q hi hj hij hg => (by cases hg), fun i j s t a hi hj ha e => (by cases e), fun a u hu => hu.elim⟩, fun i s a hi ha => ?_⟩
 ·obtain ⟨_, rfl⟩ := hx hi
  exact ⟨0, World.ownsRow_nil _ _ _ _⟩
 ·obtain ⟨h1, rfl⟩ := hx hi
  injection ha with ha
  subst ha
  exact ⟨rfl, hb, (hc i h1).2, by rw [(hc i h1).1]; rfl⟩
 ·obtain ⟨h1, rfl⟩ := hx hi
  obtain ⟨h2, rfl⟩ := hx hj
  injection ha with ha
  subst ha
  intro e
  injection e with e
  injection e with _ e
  exact hij e.symm
 ·obtain ⟨h1, rfl⟩ := hx hi
  injection ha with ha
  subst ha
  exact (hc i h1).1
theorem desk_rows {w : World} {base g : Nat} {rows : List (List Nat)} {St : Addr → Value → Prop} (h : Desk w base (slotsN g 0 rows) St) (hb : ∀ r ∈ rows, ∀ x ∈ r, x ≤ 1000000) : Listss.V w (some ⟨g, 0, none⟩) (rows.map fun r => r.map fun i : Nat => (i : Int)) := by
 intro hne
 refine ⟨g, 0, rfl, fun i x hi => ?_⟩
 rw [List.getElem?_map, Option.map_eq_some_iff] at hi
 obtain ⟨r, hr, rfl⟩ := hi
 have hs := slotsN_get (g := g) (j := 0) hr
 obtain ⟨v, n, h1, h2, h3, h4⟩ := h.row hs rfl
 rw [Nat.zero_add] at h1
 have hn : (r.map fun i : Nat => (i : Int)).length = n := by have := h3.1; simpa using this
 subst hn
 rw [Nat.mul_one, Nat.zero_add]
 rcases h3.2 with ⟨rfl, h0⟩ | ⟨g', cap, cur, rfl, q1, q2, q3, q4, -⟩
 ·refine ⟨none, 0, by rw [h1, h0], fun hne' => ?_, by omega, by unfold maxLen; omega⟩
  exact absurd (List.length_eq_zero_iff.1 h0) hne'
 ·refine ⟨some ⟨g', 0, none⟩, cap, h1, Intss.V.of (own_intsV1 h3) fun x hx => ?_, q3, q4⟩
  obtain ⟨y, hy, rfl⟩ := List.mem_map.1 hx
  have := hb r (List.mem_of_getElem? hr) y hy
  omega
end Go.Proofs.YtoelfalmmaddlaaGreat
/- The program's assignment of crosscuts. -/
set_option linter.unusedVariables false
set_option linter.unusedSimpArgs false
namespace Go.Proofs.YtoelfalmmaddlaaGreat
open Go Go.RowKit Go.Sort Go.Lib

def ordF (st : List Int) : List Int := lenF st (longM st)
theorem ordF_len (st : List Int) : (ordF st).length = st.length := by unfold ordF lenF; rw [List.length_map, longM_len]
/-- What Crosscut returns. -/
def CrossPost (w : World) (st ln : List Int) (kerf : Int) (e : Ending) (w' : World) : Prop :=
 Below w.heap.size w w' ∧ ((crossE st ln kerf ≠ 0 ∧ e = .returned (.tuple #[.slice none 0 0, .int .i64 (crossE st ln kerf)])) ∨
  (crossE st ln kerf = 0 ∧ dp (ordF st) ln kerf (2 ^ ln.length - 1) = nev (ordF st) ∧ e = .returned (.tuple #[.slice none 0 0, .int .i64 12])) ∨
  (crossE st ln kerf = 0 ∧ dp (ordF st) ln kerf (2 ^ ln.length - 1) ≠ nev (ordF st) ∧ ∃ (a : Option Addr) (c : Nat) (rows : List (List Nat)), RowsPerm rows (layR (longM st) (back (ordF st) ln kerf (2 ^ ln.length - 1) (2 ^ ln.length - 1)) (List.replicate st.length [])) ∧ (∀ r ∈ rows, r.Pairwise (· ≤ ·)) ∧
   e = .returned (.tuple #[.slice a rows.length c, .int .i64 0]) ∧ Listss.V w' a (rows.map fun r => r.map fun i : Nat => (i : Int))))
/-- What stays while the table is filled. -/
structure CrossIn (W : World) (gC gN : Nat) (a1 a2 : Option Addr) (st ln : List Int) (c1 c2 : Nat) (kerf : Int) (ao : Option Addr) : Prop where
 box : CB W gC a1 st.length c1 a2 ln.length c2 kerf
 nv : W.cell? ⟨gN, 0, none⟩ = some (.int .i64 ((st.length : Int) + 1)) ∧ W.cell? ⟨gN, 1, none⟩ = some (.int .i64 0) ∧ W.cell? ⟨gN, 2, none⟩ = some (.int .i64 0)
 sv : IntsV W a1 st
 lv : IntsV W a2 ln
 ov : IntsV W ao ((longM st).map fun i : Nat => (i : Int))
theorem CrossIn.keep {W W' : World} {gC gN : Nat} {a1 a2 ao : Option Addr} {st ln : List Int} {c1 c2 : Nat} {kerf : Int} (h : CrossIn W gC gN a1 a2 st ln c1 c2 kerf ao) (hb : Below W.heap.size W W') : CrossIn W' gC gN a1 a2 st ln c1 c2 kerf ao :=
 ⟨h.box.keep hb, ⟨cell_keep hb h.nv.1, cell_keep hb h.nv.2.1, cell_keep hb h.nv.2.2⟩, intsV_keep h.sv hb, intsV_keep h.lv hb, intsV_keep h.ov hb⟩
theorem made_none {w : World} {n i : Nat} {T : TypeId} (hi : i < n) : (w.alloc (.cells (madeCells #[.slice none 0 0] n) T)).cell? ⟨w.heap.size, i, none⟩ = some (.slice none 0 0) ∧ (w.alloc (.cells (madeCells #[.slice none 0 0] n) T)).frozen? ⟨w.heap.size, i, none⟩ = false := by
 have h := heap_alloc_new w (.cells (madeCells #[.slice none 0 0] n) T)
 constructor
 ·simp only [World.cell?, h]; simp [madeCells, hi, Nat.mod_one]
 ·simp only [World.frozen?, h]; simp
/-- The bar of a rank, and its length. -/
theorem ord_at {st : List Int} {r : Nat} (h : r < st.length) : ∃ (m : Nat) (y : Int), m < st.length ∧ ((longM st).map fun i : Nat => (i : Int))[r]? = some (m : Int) ∧ st[m]? = some y ∧ (ordF st).getD r 0 = y ∧ y ∈ st := by
 have hl : r < (longM st).length := by rw [longM_len]; exact h
 have hm := longM_lt (List.getElem_mem hl)
 refine ⟨(longM st)[r], st[(longM st)[r]], hm, by rw [List.getElem?_map, List.getElem?_eq_getElem hl]; rfl, List.getElem?_eq_getElem hm, ?_, List.getElem_mem hm⟩
 unfold ordF
 rw [lenF_get hl]
 simp [List.getD_eq_getElem?_getD, List.getElem?_eq_getElem hl, List.getElem?_eq_getElem hm]
/-- A state in a cell of its own. -/
structure AtS (W : World) (g : Nat) (s : Sta) : Prop where
 c : W.cell? ⟨g, 0, none⟩ = some (.int .i64 s.bars) ∧ W.cell? ⟨g, 1, none⟩ = some (.int .i64 s.used) ∧ W.cell? ⟨g, 2, none⟩ = some (.int .i64 s.last)
 f : W.frozen? ⟨g, 0, none⟩ = false ∧ W.frozen? ⟨g, 1, none⟩ = false ∧ W.frozen? ⟨g, 2, none⟩ = false
set_option maxRecDepth 100000 in
set_option maxHeartbeats 8000000 in
theorem crosscut_any (a1 a2 : Option Addr) (st ln : List Int) (c1 c2 : Nat) (kerf : Int) (w : World) (hv1 : IntsV w a1 st) (hv2 : IntsV w a2 ln) (hl1 : st.length ≤ 100000) (hl2 : ln.length ≤ 100000) :
    Calls Tryz.prog 16 #[.agg #[.slice a1 st.length c1, .slice a2 ln.length c2, .int .i64 kerf]] w (CrossPost w st ln kerf) := by
 by_cases he : crossE st ln kerf = 0
 ·have HE := Lib.hid he
  obtain ⟨⟨s10, l10⟩, hs, hl, hk⟩ := cross_ok he
  have HS := Lib.hid hs
  have HL := Lib.hid hl
  have HV1 := Lib.hid hv1
  have HV2 := Lib.hid hv2
  obtain ⟨N, hN⟩ : ∃ N : Nat, N = 2 ^ ln.length := ⟨_, rfl⟩
  have hN1 : 1 ≤ N ∧ N ≤ 1024 := by
   rw [hN]
   exact ⟨Nat.one_le_two_pow, Nat.le_trans (Nat.pow_le_pow_right (by omega) l10) (by decide)⟩
  have HN := Lib.hid hN
  have hmix : Tryz.prog.follows .mixedOrders = true := by kernel_rfl
  clear he hs hl hv1 hv2 hl1 hl2 hN
  go_enter Tryz.func16, Tryz.ntmps16
  go_upto_region 1 with fail
  refine gen_world (fun W => CB W w.heap.size a1 st.length c1 a2 ln.length c2 kerf ∧ Below w.heap.size w W ∧ w.heap.size < W.heap.size) ⟨⟨by simp [go_sem], by simp [go_sem], by simp [go_sem]⟩, by repeat (first | (with_reducible assumption) | exact Below.refl _ _ | (refine Below.setCell ?_ (by first | omega | (simp; omega) | (simp; done)) _) | (refine Below.alloc ?_ (by first | omega | (simp; omega) | (simp; done)) _) | (refine Below.drew ?_)), by simp⟩ ?_
  rintro W ⟨hC, hbW, hzW⟩
  obtain ⟨gC, hgC⟩ : ∃ g, g = w.heap.size := ⟨_, rfl⟩
  have HGC := Lib.hid hgC
  rw [← hgC] at hC hzW ⊢
  have HC := Lib.hid hC
  have HBW := Lib.hid hbW
  obtain ⟨k0, k1, k2⟩ := hC
  clear hbW hgC
  go_upto_region 4 with (go_at_call 30; refine (checkCross_any a1 a2 st ln c1 c2 kerf _ (intsV_keep HV1.out HBW.out) (intsV_keep HV2.out HBW.out) (by omega) (by omega)).mono ?_; rw [HE.out]; rintro e w1 ⟨rfl, hb⟩; have HB1 := Lib.hid hb; clear hb)
  have HC1 := Lib.hid (HC.out.keep HB1.out)
  have HBX := Lib.hid (HBW.out.trans (HB1.out.mono (Nat.le_of_lt (by have := HGC.out; omega))))
  clear k0 k1 k2 HC HBW HB1 hzW
  obtain ⟨k0, k1, k2⟩ := HC1.out
  go_upto_region 5 with (go_at_call 33; refine (longest_any a1 st c1 _ (intsV_keep HV1.out HBX.out) (by omega)).mono ?_; rintro e w2 ⟨v, rfl, ho, hb⟩; obtain ⟨a3, c3, rfl, hiv⟩ := own_ints' ho; have HIV := Lib.hid hiv; have HB2 := Lib.hid hb; clear ho hb hiv)
  have HC2 := Lib.hid (HC1.out.keep HB2.out)
  have HBY := Lib.hid (HBX.out.trans (HB2.out.mono HBX.out.size))
  have hgCw : gC < w2.heap.size := by have := HGC.out; have := block_lt_of_cell HC2.out.k; exact this
  clear k0 k1 k2 HC1 HBX HB2
  obtain ⟨k0, k1, k2⟩ := HC2.out
  rw [longM_len]
  have vn : IntKind.i64.wrap ((st.length : Int) + 1) = (st.length : Int) + 1 := IntWalk.i64_in _ (by omega)
  go_upto_region 6 with fail
  refine gen_world (fun W => CrossIn W gC w2.heap.size a1 a2 st ln c1 c2 kerf a3 ∧ Below w.heap.size w W ∧ w2.heap.size < W.heap.size) ⟨⟨⟨cell_keep ((Below.refl _ _).alloc (Nat.le_refl _) _) k0, cell_keep ((Below.refl _ _).alloc (Nat.le_refl _) _) k1, cell_keep ((Below.refl _ _).alloc (Nat.le_refl _) _) k2⟩, by simp, intsV_keep HV1.out (HBY.out.alloc HBY.out.size _), intsV_keep HV2.out (HBY.out.alloc HBY.out.size _), intsV_keep HIV.out ((Below.refl _ _).alloc (Nat.le_refl _) _)⟩, HBY.out.alloc HBY.out.size _, by simp⟩ ?_
  rintro W0 ⟨hX, hbW, hzW⟩
  obtain ⟨gN, hgN⟩ : ∃ g, g = w2.heap.size := ⟨_, rfl⟩
  rw [← hgN] at hX hzW hgCw ⊢
  have HX := Lib.hid hX
  have HBW := Lib.hid hbW
  clear k0 k1 k2 hbW hgN hX HBY HC2 HIV
  obtain ⟨k0, k1, k2⟩ := HX.out.box
  have hmr := fun W => make_states W N (by omega)
  have hsh := shl_64 HN.out l10
  go_upto_region 7 with fail
  obtain ⟨gB, hgB⟩ : ∃ g, g = W0.heap.size := ⟨_, rfl⟩
  have HGB := Lib.hid hgB
  rw [← hgB] at hzW ⊢
  obtain ⟨F, hF⟩ : ∃ F, F = ordF st := ⟨_, rfl⟩
  have HF := Lib.hid hF
  have HFL := Lib.hid (show F.length = st.length by rw [hF, ordF_len])
  have HOK := Lib.hid (fun k => dpL_ok (F := F) (ln := ln) (kerf := kerf) (fun x hx => by
   rw [hF] at hx
   unfold ordF lenF at hx
   obtain ⟨i, hi, rfl⟩ := List.mem_map.1 hx
   have hil := longM_lt hi
   have := HS.out st[i] (List.getElem_mem hil)
   rw [List.getD_eq_getElem?_getD, List.getElem?_eq_getElem hil]
   simp only [Option.getD_some]
   omega) (fun x hx => by have := HL.out x hx; omega) hk (by omega) k)
  clear hgB hF hmr hsh vn k0 k1 k2
  go_wp2_with fail
  go_loopw [8] (fun sv wr => ∃ S : Nat, 1 ≤ S ∧ S ≤ N ∧ sv = .int .i64 (S : Int) ∧ Hid (wr.ownsRow gB 88 3 (.slice (some ⟨gB, 0, none⟩) N N) N ((tabL F ln kerf N S).flatMap cellsS)) ∧ Below gB W0 wr) (fun sv _ => N - (intOf sv).toNat)
  case atStart =>
   refine ⟨1, Nat.le_refl _, hN1.1, rfl, Lib.hid ?_, (Below.refl _ _).alloc (by rw [HGB.out]; exact Nat.le_refl _) _⟩
   have h := made_states (w := W0) (base := gB) (n := N) (T := 88) (by rw [HGB.out]; exact Nat.le_refl _) (by unfold maxLen; omega)
   rw [tabL_one _ _ _ hN1.1]
   rw [← HGB.out] at h
   exact h
  case round =>
   obtain ⟨S, hS1, hSN, rfl, HO, hbr⟩ := hrel
   have HBR := Lib.hid hbr
   have hzB : gB < wr.heap.size := (own_blkK HO.out).2
   by_cases hlt : S < N
   ·have hSi : (S : Int) < (N : Int) := by omega
    obtain ⟨hX0, ⟨n0, n1, n2⟩, hX2, hX3, hX4⟩ := HX.out.keep (show Below W0.heap.size W0 wr by rw [← HGB.out]; exact hbr)
    obtain ⟨q0, q1, q2⟩ := hX0
    have htl : S < (tabL F ln kerf N S).length := by rw [tabL_len _ _ _ hS1 hSN]; exact hlt
    obtain ⟨⟨c0, c1', c2'⟩, f0, f1, f2⟩ := own_getS HO.out htl
    clear hbr hX2 hX3 hX4
    go_upto_region 11 with fail
    refine gen_world (fun W2 => W2.ownsRow gB 88 3 (.slice (some ⟨gB, 0, none⟩) N N) N (((tabL F ln kerf N S).set S (bestI F ln kerf (dpL F ln kerf (S - 1)) S 0)).flatMap cellsS) ∧ Below gB W0 W2) ⟨?_, ((HBR.out.setCell (Nat.le_refl _) _).setCell (Nat.le_refl _) _).setCell (Nat.le_refl _) _⟩ ?_
    ·have h := own_putS (nev F) HO.out htl
     have e : ((nev F).bars : Int) = (st.length : Int) + 1 := by unfold nev; rw [HFL.out]; simp
     rw [e] at h
     exact h
    rintro W2 ⟨ho2, hb2⟩
    obtain ⟨q0, q1, q2⟩ := (HX.out.keep (show Below W0.heap.size W0 W2 by rw [← HGB.out]; exact hb2)).box
    have HO2 := Lib.hid ho2
    have HB2 := Lib.hid hb2
    clear HO HBR c0 c1' c2' f0 f1 f2 n0 n1 n2 ho2 hb2 htl hzB
    go_wp2_with fail
    go_loopw [48] (fun kv wk => ∃ i : Nat, i ≤ ln.length ∧ kv = .int .i64 (i : Int) ∧ Hid (wk.ownsRow gB 88 3 (.slice (some ⟨gB, 0, none⟩) N N) N (((tabL F ln kerf N S).set S (bestI F ln kerf (dpL F ln kerf (S - 1)) S i)).flatMap cellsS)) ∧ Below gB W0 wk) (fun kv _ => ln.length - (intOf kv).toNat)
    case atStart => exact ⟨0, Nat.zero_le _, rfl, HO2, HB2.out⟩
    case round =>
     obtain ⟨i, hi, rfl, HO, hbk⟩ := hrel
     have HBK := Lib.hid hbk
     obtain ⟨⟨k0, k1, k2⟩, ⟨n0, n1, n2⟩, hsv, hlv, hov⟩ := HX.out.keep (show Below W0.heap.size W0 wr by rw [← HGB.out]; exact hbk)
     have hzB := (own_blkK HO.out).2
     clear hbk
     by_cases hil : i < ln.length
     ·have hii : (i : Int) < (ln.length : Int) := by omega
      obtain ⟨b, o, ha, hx⟩ := hlv (by intro e; subst e; simp at hil)
      subst ha
      have hcx := hx i _ (List.getElem?_eq_getElem hil)
      have hlx := HL.out _ (List.getElem_mem hil)
      have HXI := Lib.hid (show ln.getD i 0 = ln[i] by rw [List.getD_eq_getElem?_getD, List.getElem?_eq_getElem hil]; rfl)
      have v1 : IntKind.i64.wrap ((i : Int) + 1) = (i : Int) + 1 := IntWalk.i64_in _ (by omega)
      clear hx
      generalize ln[i] = x at *
      have han := and_bit S i (by omega)
      cases hbit : S.testBit i
      ·have HB := Lib.hid (bestI_clear (F := F) (ln := ln) (kerf := kerf) (L := dpL F ln kerf (S - 1)) hbit)
       rw [bit_div, hbit] at han
       have han : Go.bits .and .i64 ((S : Int) / 2 ^ i) 1 = 0 := han
       clear hbit
       go_wp2_with fail
       go_roundw
       case rel => exact ⟨i + 1, by omega, by go_num, by rw [HB.out]; exact HO, HBK.out⟩
       case measure => first | (simp [intOf]; done) | (simp [intOf]; omega)
      ·have HB := Lib.hid (bestI_set (F := F) (ln := ln) (kerf := kerf) (L := dpL F ln kerf (S - 1)) hbit)
       have hcl := clr_bit S i (by omega) (by omega) hbit
       have hcb := clr_lt hbit
       rw [bit_div, hbit] at han
       have han : Go.bits .and .i64 ((S : Int) / 2 ^ i) 1 = 1 := han
       obtain ⟨Q, hQ⟩ : ∃ Q, Q = S ^^^ 2 ^ i := ⟨_, rfl⟩
       rw [← hQ] at hcl hcb HB
       clear hbit hQ
       have hQi : (Q : Int) < (N : Int) := by omega
       have htl : Q < ((tabL F ln kerf N S).set S (bestI F ln kerf (dpL F ln kerf (S - 1)) S i)).length := by rw [List.length_set, tabL_len _ _ _ hS1 hSN]; omega
       obtain ⟨⟨d0, d1, d2⟩, -⟩ := own_getS HO.out htl
       have hpe := tabL_get F ln kerf (N := N) hS1 hcb (bestI F ln kerf (dpL F ln kerf (S - 1)) S i)
       rw [List.getD_eq_getElem?_getD, List.getElem?_eq_getElem htl] at hpe
       simp only [Option.getD_some] at hpe
       have hpo : StaOk F.length ((dpL F ln kerf (S - 1)).getD Q (nev F)) := by
        have hql : Q < (dpL F ln kerf (S - 1)).length := by rw [dpL_len]; omega
        rw [List.getD_eq_getElem?_getD, List.getElem?_eq_getElem hql]
        exact HOK.out _ _ (List.getElem_mem hql)
       rw [hpe] at d0 d1 d2
       have hpb : (dpL F ln kerf (S - 1)).getD Q (nev F) ≠ nev F → ((dpL F ln kerf (S - 1)).getD Q (nev F)).bars ≤ F.length := by
        rw [dpL_get F ln kerf (show Q ≤ S - 1 by omega)]
        exact fun h => (dp_bars F ln kerf Q Q (Nat.le_refl _) h).1
       clear hpe htl
       generalize (dpL F ln kerf (S - 1)).getD Q (nev F) = p at *
       obtain ⟨p1, p2, p3⟩ := hpo
       go_upto_region 16 with fail
       obtain ⟨g1, hg1⟩ : ∃ g, g = wr.heap.size := ⟨_, rfl⟩
       refine gen_world (fun W3 => Hid (W3.ownsRow gB 88 3 (.slice (some ⟨gB, 0, none⟩) N N) N (((tabL F ln kerf N S).set S (bestI F ln kerf (dpL F ln kerf (S - 1)) S i)).flatMap cellsS)) ∧ Below gB W0 W3 ∧ g1 < W3.heap.size ∧ AtS W3 g1 p) ⟨Lib.hid (own_keep HO.out ((Below.refl _ _).alloc (Nat.le_refl _) _)), HBK.out.alloc (Nat.le_of_lt hzB) _, by rw [hg1]; simp, by rw [hg1]; exact ⟨⟨by simp [go_sem], by simp [go_sem], by simp [go_sem]⟩, by simp [go_sem], by simp [go_sem], by simp [go_sem]⟩⟩ ?_
       rintro W3 ⟨HO3, hb3, hz3, hA⟩
       rw [← hg1] at hzB ⊢
       have HB3 := Lib.hid hb3
       have HA := Lib.hid hA
       obtain ⟨⟨m0, m1, m2⟩, f0, f1, f2⟩ := hA
       clear HO HBK hg1 d0 d1 d2 k0 k1 k2 n0 n1 n2 hcx hsv hlv hov q0 q1 q2 hb3 hcl hQi
       obtain ⟨⟨k0, k1, k2⟩, ⟨n0, n1, n2⟩, hsv, hlv, hov⟩ := HX.out.keep (show Below W0.heap.size W0 W3 by rw [← HGB.out]; exact HB3.out)
       by_cases hpn : p = nev F
       ·have HB := Lib.hid (show bestI F ln kerf (dpL F ln kerf (S - 1)) S (i + 1) = bestI F ln kerf (dpL F ln kerf (S - 1)) S i by rw [HB.out]; unfold roundS; rw [if_pos hpn])
        have hp1 : (p.bars : Int) = (st.length : Int) + 1 := by rw [hpn]; unfold nev; rw [HFL.out]; simp
        have hp2 : p.used = 0 := by rw [hpn]; rfl
        have hp3 : (p.last : Int) = 0 := by rw [hpn]; rfl
        rw [hp1] at m0; rw [hp2] at m1; rw [hp3] at m2
        clear hpn hp1 hp2 hp3 p1 p2 p3 hpb
        go_wp2_with fail
        go_roundw
        case rel => exact ⟨i + 1, by omega, by go_num, by rw [HB.out]; exact HO3, HB3.out⟩
        case measure => first | (simp [intOf]; done) | (simp [intOf]; omega)
       ·have hpb := hpb hpn
        have hpl := HFL.out
        have hbar : ¬ (p.bars : Int) = (st.length : Int) + 1 := by omega
        have HFP := Lib.hid hpl
        clear hpl
        obtain ⟨bb, hbb⟩ : ∃ bb, bb = bestI F ln kerf (dpL F ln kerf (S - 1)) S i := ⟨_, rfl⟩
        rw [← hbb] at HB HO3
        have HNO := Lib.hid (show stepS F ln kerf p i = none → bestI F ln kerf (dpL F ln kerf (S - 1)) S (i + 1) = bb from fun h => by rw [HB.out]; unfold roundS; rw [if_neg hpn, h])
        have HSO := Lib.hid (show ∀ u, stepS F ln kerf p i = some u → bestI F ln kerf (dpL F ln kerf (S - 1)) S (i + 1) = if ltS u bb = true then u else bb from fun u h => by rw [HB.out]; unfold roundS; rw [if_neg hpn, h])
        have HST := Lib.hid (show stepS F ln kerf p i = if p.bars = 0 ∨ F.getD (p.bars - 1) 0 + kerf < p.used + (x + kerf) then (if F.length < p.bars + 1 ∨ F.getD p.bars 0 < x then none else some ⟨p.bars + 1, x + kerf, i⟩) else some ⟨p.bars, p.used + (x + kerf), i⟩ by unfold stepS; rw [HXI.out])
        have HPN := Lib.hid hpn
        clear hpn hbb HB
        have v2 : IntKind.i64.wrap (x + kerf) = x + kerf := IntWalk.i64_in _ (by omega)
        have v3 : IntKind.i64.wrap (p.used + (x + kerf)) = p.used + (x + kerf) := IntWalk.i64_in _ (by omega)
        go_upto_region 19 with fail
        refine gen_world (fun W4 => Hid (W4.ownsRow gB 88 3 (.slice (some ⟨gB, 0, none⟩) N N) N (((tabL F ln kerf N S).set S bb).flatMap cellsS)) ∧ Below gB W0 W4 ∧ g1 < W4.heap.size ∧ AtS W4 g1 ⟨p.bars, p.used + (x + kerf), i⟩) ⟨Lib.hid (own_setne (own_setne HO3.out (by omega)) (by omega)), (HB3.out.setCell (Nat.le_of_lt hzB) _).setCell (Nat.le_of_lt hzB) _, by simpa [size_set] using hz3, ⟨⟨by simp [go_sem, m0], by simp [go_sem, m1], by simp [go_sem, m2]⟩, by simp [frozen_set, f0], by simp [frozen_set, f1], by simp [frozen_set, f2]⟩⟩ ?_
        rintro W4 ⟨HO4, hb4, hz4, hA4⟩
        have HB4 := Lib.hid hb4
        have HA4 := Lib.hid hA4
        clear HO3 HB3 hz3 HA m0 m1 m2 f0 f1 f2 k0 k1 k2 n0 n1 n2 hsv hlv hov hb4
        obtain ⟨⟨m0, m1, m2⟩, f0, f1, f2⟩ := hA4
        obtain ⟨⟨k0, k1, k2⟩, ⟨n0, n1, n2⟩, hsv, hlv, hov⟩ := HX.out.keep (show Below W0.heap.size W0 W4 by rw [← HGB.out]; exact HB4.out)
        simp only at m0 m1 m2
        by_cases hz : p.bars = 0
        ·have hz' : (p.bars : Int) = 0 := by omega
         have HST := Lib.hid (HST.out.trans (if_pos (.inl hz)))
         go_quiet (fail)
         rename_i nq
         clear hz hz'
         go_upto_region 20 with fail
         refine gen_world (fun W6 => Hid (W6.ownsRow gB 88 3 (.slice (some ⟨gB, 0, none⟩) N N) N (((tabL F ln kerf N S).set S bb).flatMap cellsS)) ∧ Below gB W0 W6 ∧ g1 < W6.heap.size ∧ AtS W6 g1 ⟨p.bars, p.used + (x + kerf), i⟩) ⟨Lib.hid (own_keep HO4.out (below_drewN (Below.refl _ _) nq)), below_drewN HB4.out nq, hz4, ⟨HA4.out.c, HA4.out.f⟩⟩ ?_
         clear HO4 HB4 HA4 hz4 m0 m1 m2 f0 f1 f2 k0 k1 k2 n0 n1 n2 hsv hlv hov
         rintro W7 ⟨HO7, hb7, hz7, hA7⟩
         have HB7 := Lib.hid hb7
         have HA7 := Lib.hid hA7
         obtain ⟨⟨m0, m1, m2⟩, f0, f1, f2⟩ := hA7
         obtain ⟨⟨k0, k1, k2⟩, ⟨n0, n1, n2⟩, hsv, hlv, hov⟩ := HX.out.keep (show Below W0.heap.size W0 W7 by rw [← HGB.out]; exact HB7.out)
         simp only at m0 m1 m2
         clear hb7
         have v6 : IntKind.i64.wrap ((p.bars : Int) + 1) = (p.bars : Int) + 1 := IntWalk.i64_in _ (by have := HFP.out; omega)
         go_region
         go_upto_region 21 with fail
         obtain ⟨u, hu⟩ : ∃ u : Sta, u = ⟨p.bars + 1, x + kerf, i⟩ := ⟨_, rfl⟩
         refine gen_world (fun W6 => Hid (W6.ownsRow gB 88 3 (.slice (some ⟨gB, 0, none⟩) N N) N (((tabL F ln kerf N S).set S bb).flatMap cellsS)) ∧ Below gB W0 W6 ∧ g1 < W6.heap.size ∧ AtS W6 g1 u) ⟨Lib.hid (own_keep (own_setne (own_setne HO7.out (by omega)) (by omega)) ((Below.refl _ _).drew)), ((HB7.out.setCell (Nat.le_of_lt hzB) _).setCell (Nat.le_of_lt hzB) _).drew, by simpa [size_set] using hz7, by rw [hu]; exact ⟨⟨by simp [go_sem, m0], by simp [go_sem, m1], by simp [go_sem, m2]⟩, by simp [frozen_set, f0], by simp [frozen_set, f1], by simp [frozen_set, f2]⟩⟩ ?_
         clear HO7 HB7 HA7 hz7 m0 m1 m2 f0 f1 f2 k0 k1 k2 n0 n1 n2 hsv hlv hov
         rintro W4 ⟨HO4, hb4, hz4, hA4⟩
         have HB4 := Lib.hid hb4
         have hA4' := hA4
         obtain ⟨⟨m0, m1, m2⟩, f0, f1, f2⟩ := hA4'
         obtain ⟨⟨k0, k1, k2⟩, ⟨n0, n1, n2⟩, hsv, hlv, hov⟩ := HX.out.keep (show Below W0.heap.size W0 W4 by rw [← HGB.out]; exact HB4.out)
         clear hb4
         have HST := Lib.hid (show stepS F ln kerf p i = if F.length < p.bars + 1 ∨ F.getD p.bars 0 < x then none else some u by rw [hu]; exact HST.out)
         have hub : u.bars = p.bars + 1 := by rw [hu]
         have hpl := HFP.out
         by_cases hmany : st.length < p.bars + 1
         ·have hmany' : (u.bars : Int) > (st.length : Int) := by omega
          have HBE := Lib.hid (HNO.out (HST.out.trans (if_pos (.inl (by omega)))))
          clear hub hu hpl
          go_quiet (fail)
          rename_i nq
          go_wp2_with fail
          go_roundw
          case rel => exact ⟨i + 1, by omega, by go_num, by rw [HBE.out]; exact Lib.hid (own_keep HO4.out (below_drewN (Below.refl _ _) nq)), below_drewN HB4.out nq⟩
          case measure => first | (simp [intOf]; done) | (simp [intOf]; omega)
         ·have hmany' : ¬ (u.bars : Int) > (st.length : Int) := by omega
          obtain ⟨m', y', hms', hmo', hmy', hFy', hyst'⟩ := ord_at (st := st) (r := p.bars) (by omega)
          rw [← HF.out] at hFy'
          have hys' := HS.out y' hyst'
          rw [hFy'] at HST
          obtain ⟨bo', oo', hao', hxo'⟩ := hov (by intro e; rw [List.map_eq_nil_iff] at e; have := longM_len st; rw [e] at this; simp at this; omega)
          obtain ⟨bs', os', has', hxs'⟩ := hsv (by intro e; subst e; simp at hms')
          cases hao'
          cases has'
          have hco' := hxo' p.bars _ hmo'
          have hcs' := hxs' m' _ hmy'
          have hmi' : (m' : Int) < (st.length : Int) := by omega
          have v7 : ((u.bars : Int) - 1).toNat = p.bars := by omega
          have v7a : IntKind.i64.wrap ((u.bars : Int) - 1) = (p.bars : Int) := by rw [show (u.bars : Int) - 1 = (p.bars : Int) by omega]; exact IntWalk.i64_in _ (by omega)
          have v7j : (p.bars : Int) < (st.length : Int) := by omega
          have v7b : 0 ≤ (u.bars : Int) - 1 := by omega
          have v7c : (u.bars : Int) - 1 < (st.length : Int) := by omega
          have v7d : (1 : Int) ≤ (u.bars : Int) := by omega
          have v7e : (u.bars : Int) < (st.length : Int) + 1 := by omega
          have v7f : (u.bars : Int) ≤ (st.length : Int) := by omega
          have v7g : 1 ≤ u.bars := by omega
          have v7h : u.bars ≤ st.length := by omega
          have v7i : u.bars - 1 < st.length := by omega
          have v7k : u.bars < st.length + 1 := by omega
          by_cases hlong : y' < x
          ·have hlong' : x > y' := hlong
           have HBE := Lib.hid (HNO.out (HST.out.trans (if_pos (.inr hlong))))
           clear hub hu hpl hxo' hxs' hmo' hmy' hyst' hFy'
           go_quiet (fail)
           rename_i nq
           go_wp2_with fail
           go_roundw
           case rel => exact ⟨i + 1, by omega, by go_num, by rw [HBE.out]; exact Lib.hid (own_keep HO4.out (below_drewN (Below.refl _ _) nq)), below_drewN HB4.out nq⟩
           case measure => first | (simp [intOf]; done) | (simp [intOf]; omega)
          ·have hlong' : ¬ x > y' := hlong
           have HU := Lib.hid (HST.out.trans (if_neg (by rintro (h | h); omega; exact hlong h)))
           clear hub hu hpl hxo' hxs' hmo' hmy' hyst' hFy'
           go_quiet (fail)
           rename_i nq
           go_upto_region 22 with fail
           refine gen_world (fun W6 => Hid (W6.ownsRow gB 88 3 (.slice (some ⟨gB, 0, none⟩) N N) N (((tabL F ln kerf N S).set S bb).flatMap cellsS)) ∧ Below gB W0 W6 ∧ g1 < W6.heap.size ∧ AtS W6 g1 u) ⟨Lib.hid (own_keep HO4.out (below_drewN (Below.refl _ _) nq)), below_drewN HB4.out nq, hz4, ⟨hA4.c, hA4.f⟩⟩ ?_
           clear HO4 HB4 hA4 hz4 m0 m1 m2 f0 f1 f2 k0 k1 k2 n0 n1 n2 hsv hlv hov hco' hcs' W4
           rintro W4 ⟨HO4, hb4, hz4, hA4⟩
           have HB4 := Lib.hid hb4
           have hA4' := hA4
           obtain ⟨⟨m0, m1, m2⟩, f0, f1, f2⟩ := hA4'
           obtain ⟨⟨k0, k1, k2⟩, ⟨n0, n1, n2⟩, hsv, hlv, hov⟩ := HX.out.keep (show Below W0.heap.size W0 W4 by rw [← HGB.out]; exact HB4.out)
           clear hb4
           have htl : S < ((tabL F ln kerf N S).set S bb).length := by rw [List.length_set, tabL_len _ _ _ hS1 hSN]; exact hlt
           have hbl : ((tabL F ln kerf N S).set S bb)[S] = bb := List.getElem_set_self _
           obtain ⟨⟨e0, e1, e2⟩, fe0, fe1, fe2⟩ := own_getS HO4.out htl
           rw [hbl] at e0 e1 e2
           go_upto_region 23 with fail
           obtain ⟨g2, hg2⟩ : ∃ g, g = W4.heap.size := ⟨_, rfl⟩
           have hg12 : g1 < g2 := by omega
           refine gen_world (fun W5 => Hid (W5.ownsRow gB 88 3 (.slice (some ⟨gB, 0, none⟩) N N) N (((tabL F ln kerf N S).set S bb).flatMap cellsS)) ∧ Below gB W0 W5 ∧ AtS W5 g1 u ∧ AtS W5 g2 bb) ⟨Lib.hid (own_keep HO4.out ((Below.refl _ _).alloc (Nat.le_refl _) _)), HB4.out.alloc (by have := (own_blkK HO4.out).2; omega) _, ⟨⟨cell_keep ((Below.refl _ _).alloc (Nat.le_refl _) _) m0, cell_keep ((Below.refl _ _).alloc (Nat.le_refl _) _) m1, cell_keep ((Below.refl _ _).alloc (Nat.le_refl _) _) m2⟩, by simp [go_sem, f0, hz4], by simp [go_sem, f1, hz4], by simp [go_sem, f2, hz4]⟩, by rw [hg2]; exact ⟨⟨by simp [go_sem], by simp [go_sem], by simp [go_sem]⟩, by simp [go_sem], by simp [go_sem], by simp [go_sem]⟩⟩ ?_
           rintro W5 ⟨HO5, hb5, hA5, hC5⟩
           rw [← hg2]
           have HB5 := Lib.hid hb5
           clear m0 m1 m2 f0 f1 f2 HO4 HB4 hA4 k0 k1 k2 n0 n1 n2 hsv hlv hov hb5 hg2 e0 e1 e2 fe0 fe1 fe2 hz4
           obtain ⟨⟨m0, m1, m2⟩, f0, f1, f2⟩ := hA5
           obtain ⟨⟨t0, t1, t2⟩, -⟩ := hC5
           obtain ⟨⟨e0, e1, e2⟩, fe0, fe1, fe2⟩ := own_getS HO5.out htl
           rw [hbl] at e0 e1 e2
           clear hbl
           by_cases l1 : u.bars < bb.bars
           ·have HBE := Lib.hid (show bestI F ln kerf (dpL F ln kerf (S - 1)) S (i + 1) = u by rw [HSO.out u HU.out, if_pos (by unfold ltS; simp [l1])])
            have l1' : (u.bars : Int) < (bb.bars : Int) := by omega
            clear l1
            go_upto_region 24 with fail
            go_wp2_with fail
            go_roundw
            case rel =>
             refine ⟨i + 1, by omega, by go_num, Lib.hid ?_, (HB5.out.setCell (Nat.le_refl _) _).setCell (Nat.le_refl _) _ |>.setCell (Nat.le_refl _) _⟩
             have h := own_putS u HO5.out htl
             rw [List.set_set] at h
             rw [HBE.out]
             exact h
            case measure => first | (simp [intOf]; done) | (simp [intOf]; omega)
           ·have l1' : ¬ (u.bars : Int) < (bb.bars : Int) := by omega
            by_cases l2 : u.bars = bb.bars
            ·have l2' : ((u.bars : Int) == (bb.bars : Int)) = true := by rw [l2]; simp
             by_cases l3 : u.used < bb.used
             ·have HBE := Lib.hid (show bestI F ln kerf (dpL F ln kerf (S - 1)) S (i + 1) = u by rw [HSO.out u HU.out, if_pos (by unfold ltS; simp [l2, l3])])
              clear l1 l2
              go_upto_region 24 with fail
              go_wp2_with fail
              go_roundw
              case rel =>
               refine ⟨i + 1, by omega, by go_num, Lib.hid ?_, (HB5.out.setCell (Nat.le_refl _) _).setCell (Nat.le_refl _) _ |>.setCell (Nat.le_refl _) _⟩
               have h := own_putS u HO5.out htl
               rw [List.set_set] at h
               rw [HBE.out]
               exact h
              case measure => first | (simp [intOf]; done) | (simp [intOf]; omega)
             ·have HBE := Lib.hid (show bestI F ln kerf (dpL F ln kerf (S - 1)) S (i + 1) = bb by rw [HSO.out u HU.out, if_neg (by unfold ltS; simp [l1, l3])])
              clear l1 l2
              go_wp2_with fail
              go_roundw
              case rel => exact ⟨i + 1, by omega, by go_num, by rw [HBE.out]; exact HO5, HB5.out⟩
              case measure => first | (simp [intOf]; done) | (simp [intOf]; omega)
            ·have l2' : ((u.bars : Int) == (bb.bars : Int)) = false := by rw [beq_eq_false_iff_ne]; omega
             have HBE := Lib.hid (show bestI F ln kerf (dpL F ln kerf (S - 1)) S (i + 1) = bb by rw [HSO.out u HU.out, if_neg (by unfold ltS; simp [l1, l2])])
             clear l1 l2
             go_wp2_with fail
             go_roundw
             case rel => exact ⟨i + 1, by omega, by go_num, by rw [HBE.out]; exact HO5, HB5.out⟩
             case measure => first | (simp [intOf]; done) | (simp [intOf]; omega)
        ·have hz' : ¬ (p.bars : Int) = 0 := by omega
         have hpl := HFP.out
         obtain ⟨r, hr⟩ : ∃ r, p.bars = r + 1 := ⟨p.bars - 1, by omega⟩
         obtain ⟨m, y, hms, hmo, hmy, hFy, hyst⟩ := ord_at (st := st) (r := r) (by omega)
         rw [← HF.out] at hFy
         have hys := HS.out y hyst
         have HST := Lib.hid (HST.out)
         rw [show p.bars - 1 = r by omega, hFy] at HST
         obtain ⟨bo, oo, hao, hxo⟩ := hov (by intro e; rw [List.map_eq_nil_iff] at e; have := longM_len st; rw [e] at this; simp at this; omega)
         obtain ⟨bs, os, has, hxs⟩ := hsv (by intro e; subst e; simp at hms)
         subst hao has
         have hco := hxo r _ hmo
         have hcs := hxs m _ hmy
         have hri : (r : Int) < (st.length : Int) := by omega
         have hmi : (m : Int) < (st.length : Int) := by omega
         have v4 : IntKind.i64.wrap ((p.bars : Int) - 1) = (r : Int) := by rw [show (p.bars : Int) - 1 = (r : Int) by omega]; exact IntWalk.i64_in _ (by omega)
         have v4a : ((p.bars : Int) - 1).toNat = r := by omega
         have v4b : 0 ≤ (p.bars : Int) - 1 := by omega
         have v4c : (p.bars : Int) - 1 < (st.length : Int) := by omega
         have v4d : (1 : Int) ≤ (p.bars : Int) := by omega
         have v4e : (p.bars : Int) < (st.length : Int) + 1 := by omega
         have v4f : (p.bars : Int) ≤ (st.length : Int) := by omega
         have v4g : 1 ≤ p.bars := by omega
         have v4h : p.bars ≤ st.length := by omega
         have v4i : p.bars - 1 < st.length := by omega
         have v4j : p.bars - 1 = r := by omega
         have v4k : p.bars < st.length + 1 := by omega
         have v5 : IntKind.i64.wrap (y + kerf) = y + kerf := IntWalk.i64_in _ (by omega)
         have HR := Lib.hid hr
         clear hpl hxo hxs hmo hmy hyst hr v4j v4a
         have v4a : ((p.bars : Int) - 1).toNat = r := by have := HR.out; omega
         by_cases hfull : y + kerf < p.used + (x + kerf)
         ·have hfull' : p.used + (x + kerf) > y + kerf := hfull
          have HST := Lib.hid (HST.out.trans (if_pos (.inr hfull)))
          go_quiet (fail)
          rename_i nq
          clear hco hcs
          go_upto_region 20 with fail
          refine gen_world (fun W6 => Hid (W6.ownsRow gB 88 3 (.slice (some ⟨gB, 0, none⟩) N N) N (((tabL F ln kerf N S).set S bb).flatMap cellsS)) ∧ Below gB W0 W6 ∧ g1 < W6.heap.size ∧ AtS W6 g1 ⟨p.bars, p.used + (x + kerf), i⟩) ⟨Lib.hid (own_keep HO4.out (below_drewN (Below.refl _ _) nq)), below_drewN HB4.out nq, hz4, ⟨HA4.out.c, HA4.out.f⟩⟩ ?_
          clear HO4 HB4 HA4 hz4 m0 m1 m2 f0 f1 f2 k0 k1 k2 n0 n1 n2 hsv hlv hov
          rintro W7 ⟨HO7, hb7, hz7, hA7⟩
          have HB7 := Lib.hid hb7
          have HA7 := Lib.hid hA7
          obtain ⟨⟨m0, m1, m2⟩, f0, f1, f2⟩ := hA7
          obtain ⟨⟨k0, k1, k2⟩, ⟨n0, n1, n2⟩, hsv, hlv, hov⟩ := HX.out.keep (show Below W0.heap.size W0 W7 by rw [← HGB.out]; exact HB7.out)
          simp only at m0 m1 m2
          clear hb7
          have v6 : IntKind.i64.wrap ((p.bars : Int) + 1) = (p.bars : Int) + 1 := IntWalk.i64_in _ (by have := HFP.out; omega)
          go_region
          go_upto_region 21 with fail
          obtain ⟨u, hu⟩ : ∃ u : Sta, u = ⟨p.bars + 1, x + kerf, i⟩ := ⟨_, rfl⟩
          refine gen_world (fun W6 => Hid (W6.ownsRow gB 88 3 (.slice (some ⟨gB, 0, none⟩) N N) N (((tabL F ln kerf N S).set S bb).flatMap cellsS)) ∧ Below gB W0 W6 ∧ g1 < W6.heap.size ∧ AtS W6 g1 u) ⟨Lib.hid (own_keep (own_setne (own_setne HO7.out (by omega)) (by omega)) ((Below.refl _ _).drew)), ((HB7.out.setCell (Nat.le_of_lt hzB) _).setCell (Nat.le_of_lt hzB) _).drew, by simpa [size_set] using hz7, by rw [hu]; exact ⟨⟨by simp [go_sem, m0], by simp [go_sem, m1], by simp [go_sem, m2]⟩, by simp [frozen_set, f0], by simp [frozen_set, f1], by simp [frozen_set, f2]⟩⟩ ?_
          clear HO7 HB7 HA7 hz7 m0 m1 m2 f0 f1 f2 k0 k1 k2 n0 n1 n2 hsv hlv hov
          rintro W4 ⟨HO4, hb4, hz4, hA4⟩
          have HB4 := Lib.hid hb4
          have hA4' := hA4
          obtain ⟨⟨m0, m1, m2⟩, f0, f1, f2⟩ := hA4'
          obtain ⟨⟨k0, k1, k2⟩, ⟨n0, n1, n2⟩, hsv, hlv, hov⟩ := HX.out.keep (show Below W0.heap.size W0 W4 by rw [← HGB.out]; exact HB4.out)
          clear hb4
          have HST := Lib.hid (show stepS F ln kerf p i = if F.length < p.bars + 1 ∨ F.getD p.bars 0 < x then none else some u by rw [hu]; exact HST.out)
          have hub : u.bars = p.bars + 1 := by rw [hu]
          have hpl := HFP.out
          by_cases hmany : st.length < p.bars + 1
          ·have hmany' : (u.bars : Int) > (st.length : Int) := by omega
           have HBE := Lib.hid (HNO.out (HST.out.trans (if_pos (.inl (by omega)))))
           clear hub hu hpl
           go_quiet (fail)
           rename_i nq
           go_wp2_with fail
           go_roundw
           case rel => exact ⟨i + 1, by omega, by go_num, by rw [HBE.out]; exact Lib.hid (own_keep HO4.out (below_drewN (Below.refl _ _) nq)), below_drewN HB4.out nq⟩
           case measure => first | (simp [intOf]; done) | (simp [intOf]; omega)
          ·have hmany' : ¬ (u.bars : Int) > (st.length : Int) := by omega
           obtain ⟨m', y', hms', hmo', hmy', hFy', hyst'⟩ := ord_at (st := st) (r := p.bars) (by omega)
           rw [← HF.out] at hFy'
           have hys' := HS.out y' hyst'
           rw [hFy'] at HST
           obtain ⟨bo', oo', hao', hxo'⟩ := hov (by intro e; rw [List.map_eq_nil_iff] at e; have := longM_len st; rw [e] at this; simp at this; omega)
           obtain ⟨bs', os', has', hxs'⟩ := hsv (by intro e; subst e; simp at hms')
           cases hao'
           cases has'
           have hco' := hxo' p.bars _ hmo'
           have hcs' := hxs' m' _ hmy'
           have hmi' : (m' : Int) < (st.length : Int) := by omega
           have v7 : ((u.bars : Int) - 1).toNat = p.bars := by omega
           have v7a : IntKind.i64.wrap ((u.bars : Int) - 1) = (p.bars : Int) := by rw [show (u.bars : Int) - 1 = (p.bars : Int) by omega]; exact IntWalk.i64_in _ (by omega)
           have v7j : (p.bars : Int) < (st.length : Int) := by omega
           have v7b : 0 ≤ (u.bars : Int) - 1 := by omega
           have v7c : (u.bars : Int) - 1 < (st.length : Int) := by omega
           have v7d : (1 : Int) ≤ (u.bars : Int) := by omega
           have v7e : (u.bars : Int) < (st.length : Int) + 1 := by omega
           have v7f : (u.bars : Int) ≤ (st.length : Int) := by omega
           have v7g : 1 ≤ u.bars := by omega
           have v7h : u.bars ≤ st.length := by omega
           have v7i : u.bars - 1 < st.length := by omega
           have v7k : u.bars < st.length + 1 := by omega
           by_cases hlong : y' < x
           ·have hlong' : x > y' := hlong
            have HBE := Lib.hid (HNO.out (HST.out.trans (if_pos (.inr hlong))))
            clear hub hu hpl hxo' hxs' hmo' hmy' hyst' hFy'
            go_quiet (fail)
            rename_i nq
            go_wp2_with fail
            go_roundw
            case rel => exact ⟨i + 1, by omega, by go_num, by rw [HBE.out]; exact Lib.hid (own_keep HO4.out (below_drewN (Below.refl _ _) nq)), below_drewN HB4.out nq⟩
            case measure => first | (simp [intOf]; done) | (simp [intOf]; omega)
           ·have hlong' : ¬ x > y' := hlong
            have HU := Lib.hid (HST.out.trans (if_neg (by rintro (h | h); omega; exact hlong h)))
            clear hub hu hpl hxo' hxs' hmo' hmy' hyst' hFy'
            go_quiet (fail)
            rename_i nq
            go_upto_region 22 with fail
            refine gen_world (fun W6 => Hid (W6.ownsRow gB 88 3 (.slice (some ⟨gB, 0, none⟩) N N) N (((tabL F ln kerf N S).set S bb).flatMap cellsS)) ∧ Below gB W0 W6 ∧ g1 < W6.heap.size ∧ AtS W6 g1 u) ⟨Lib.hid (own_keep HO4.out (below_drewN (Below.refl _ _) nq)), below_drewN HB4.out nq, hz4, ⟨hA4.c, hA4.f⟩⟩ ?_
            clear HO4 HB4 hA4 hz4 m0 m1 m2 f0 f1 f2 k0 k1 k2 n0 n1 n2 hsv hlv hov hco' hcs' W4
            rintro W4 ⟨HO4, hb4, hz4, hA4⟩
            have HB4 := Lib.hid hb4
            have hA4' := hA4
            obtain ⟨⟨m0, m1, m2⟩, f0, f1, f2⟩ := hA4'
            obtain ⟨⟨k0, k1, k2⟩, ⟨n0, n1, n2⟩, hsv, hlv, hov⟩ := HX.out.keep (show Below W0.heap.size W0 W4 by rw [← HGB.out]; exact HB4.out)
            clear hb4
            have htl : S < ((tabL F ln kerf N S).set S bb).length := by rw [List.length_set, tabL_len _ _ _ hS1 hSN]; exact hlt
            have hbl : ((tabL F ln kerf N S).set S bb)[S] = bb := List.getElem_set_self _
            obtain ⟨⟨e0, e1, e2⟩, fe0, fe1, fe2⟩ := own_getS HO4.out htl
            rw [hbl] at e0 e1 e2
            go_upto_region 23 with fail
            obtain ⟨g2, hg2⟩ : ∃ g, g = W4.heap.size := ⟨_, rfl⟩
            have hg12 : g1 < g2 := by omega
            refine gen_world (fun W5 => Hid (W5.ownsRow gB 88 3 (.slice (some ⟨gB, 0, none⟩) N N) N (((tabL F ln kerf N S).set S bb).flatMap cellsS)) ∧ Below gB W0 W5 ∧ AtS W5 g1 u ∧ AtS W5 g2 bb) ⟨Lib.hid (own_keep HO4.out ((Below.refl _ _).alloc (Nat.le_refl _) _)), HB4.out.alloc (by have := (own_blkK HO4.out).2; omega) _, ⟨⟨cell_keep ((Below.refl _ _).alloc (Nat.le_refl _) _) m0, cell_keep ((Below.refl _ _).alloc (Nat.le_refl _) _) m1, cell_keep ((Below.refl _ _).alloc (Nat.le_refl _) _) m2⟩, by simp [go_sem, f0, hz4], by simp [go_sem, f1, hz4], by simp [go_sem, f2, hz4]⟩, by rw [hg2]; exact ⟨⟨by simp [go_sem], by simp [go_sem], by simp [go_sem]⟩, by simp [go_sem], by simp [go_sem], by simp [go_sem]⟩⟩ ?_
            rintro W5 ⟨HO5, hb5, hA5, hC5⟩
            rw [← hg2]
            have HB5 := Lib.hid hb5
            clear m0 m1 m2 f0 f1 f2 HO4 HB4 hA4 k0 k1 k2 n0 n1 n2 hsv hlv hov hb5 hg2 e0 e1 e2 fe0 fe1 fe2 hz4
            obtain ⟨⟨m0, m1, m2⟩, f0, f1, f2⟩ := hA5
            obtain ⟨⟨t0, t1, t2⟩, -⟩ := hC5
            obtain ⟨⟨e0, e1, e2⟩, fe0, fe1, fe2⟩ := own_getS HO5.out htl
            rw [hbl] at e0 e1 e2
            clear hbl
            by_cases l1 : u.bars < bb.bars
            ·have HBE := Lib.hid (show bestI F ln kerf (dpL F ln kerf (S - 1)) S (i + 1) = u by rw [HSO.out u HU.out, if_pos (by unfold ltS; simp [l1])])
             have l1' : (u.bars : Int) < (bb.bars : Int) := by omega
             clear l1
             go_upto_region 24 with fail
             go_wp2_with fail
             go_roundw
             case rel =>
              refine ⟨i + 1, by omega, by go_num, Lib.hid ?_, (HB5.out.setCell (Nat.le_refl _) _).setCell (Nat.le_refl _) _ |>.setCell (Nat.le_refl _) _⟩
              have h := own_putS u HO5.out htl
              rw [List.set_set] at h
              rw [HBE.out]
              exact h
             case measure => first | (simp [intOf]; done) | (simp [intOf]; omega)
            ·have l1' : ¬ (u.bars : Int) < (bb.bars : Int) := by omega
             by_cases l2 : u.bars = bb.bars
             ·have l2' : ((u.bars : Int) == (bb.bars : Int)) = true := by rw [l2]; simp
              by_cases l3 : u.used < bb.used
              ·have HBE := Lib.hid (show bestI F ln kerf (dpL F ln kerf (S - 1)) S (i + 1) = u by rw [HSO.out u HU.out, if_pos (by unfold ltS; simp [l2, l3])])
               clear l1 l2
               go_upto_region 24 with fail
               go_wp2_with fail
               go_roundw
               case rel =>
                refine ⟨i + 1, by omega, by go_num, Lib.hid ?_, (HB5.out.setCell (Nat.le_refl _) _).setCell (Nat.le_refl _) _ |>.setCell (Nat.le_refl _) _⟩
                have h := own_putS u HO5.out htl
                rw [List.set_set] at h
                rw [HBE.out]
                exact h
               case measure => first | (simp [intOf]; done) | (simp [intOf]; omega)
              ·have HBE := Lib.hid (show bestI F ln kerf (dpL F ln kerf (S - 1)) S (i + 1) = bb by rw [HSO.out u HU.out, if_neg (by unfold ltS; simp [l1, l3])])
               clear l1 l2
               go_wp2_with fail
               go_roundw
               case rel => exact ⟨i + 1, by omega, by go_num, by rw [HBE.out]; exact HO5, HB5.out⟩
               case measure => first | (simp [intOf]; done) | (simp [intOf]; omega)
             ·have l2' : ((u.bars : Int) == (bb.bars : Int)) = false := by rw [beq_eq_false_iff_ne]; omega
              have HBE := Lib.hid (show bestI F ln kerf (dpL F ln kerf (S - 1)) S (i + 1) = bb by rw [HSO.out u HU.out, if_neg (by unfold ltS; simp [l1, l2])])
              clear l1 l2
              go_wp2_with fail
              go_roundw
              case rel => exact ⟨i + 1, by omega, by go_num, by rw [HBE.out]; exact HO5, HB5.out⟩
              case measure => first | (simp [intOf]; done) | (simp [intOf]; omega)
         ·have hfull' : ¬ p.used + (x + kerf) > y + kerf := hfull
          have HU := Lib.hid (HST.out.trans (if_neg (by rintro (h | h); exact hz h; exact hfull h)))
          obtain ⟨u, hu⟩ : ∃ u : Sta, u = ⟨p.bars, p.used + (x + kerf), i⟩ := ⟨_, rfl⟩
          have HUU := Lib.hid hu
          rw [← hu] at HU
          clear hu
          go_quiet (fail)
          rename_i nq
          go_upto_region 22 with fail
          refine gen_world (fun W6 => Hid (W6.ownsRow gB 88 3 (.slice (some ⟨gB, 0, none⟩) N N) N (((tabL F ln kerf N S).set S bb).flatMap cellsS)) ∧ Below gB W0 W6 ∧ g1 < W6.heap.size ∧ AtS W6 g1 u) ⟨Lib.hid (own_keep HO4.out (below_drewN (Below.refl _ _) nq)), below_drewN HB4.out nq, hz4, by rw [HUU.out]; exact ⟨HA4.out.c, HA4.out.f⟩⟩ ?_
          clear HO4 HB4 HA4 hz4 m0 m1 m2 f0 f1 f2 k0 k1 k2 n0 n1 n2 hsv hlv hov hco hcs W4
          rintro W4 ⟨HO4, hb4, hz4, hA4⟩
          have HB4 := Lib.hid hb4
          have hA4' := hA4
          obtain ⟨⟨m0, m1, m2⟩, f0, f1, f2⟩ := hA4'
          obtain ⟨⟨k0, k1, k2⟩, ⟨n0, n1, n2⟩, hsv, hlv, hov⟩ := HX.out.keep (show Below W0.heap.size W0 W4 by rw [← HGB.out]; exact HB4.out)
          clear hb4
          have htl : S < ((tabL F ln kerf N S).set S bb).length := by rw [List.length_set, tabL_len _ _ _ hS1 hSN]; exact hlt
          have hbl : ((tabL F ln kerf N S).set S bb)[S] = bb := List.getElem_set_self _
          obtain ⟨⟨e0, e1, e2⟩, fe0, fe1, fe2⟩ := own_getS HO4.out htl
          rw [hbl] at e0 e1 e2
          go_upto_region 23 with fail
          obtain ⟨g2, hg2⟩ : ∃ g, g = W4.heap.size := ⟨_, rfl⟩
          have hg12 : g1 < g2 := by omega
          refine gen_world (fun W5 => Hid (W5.ownsRow gB 88 3 (.slice (some ⟨gB, 0, none⟩) N N) N (((tabL F ln kerf N S).set S bb).flatMap cellsS)) ∧ Below gB W0 W5 ∧ AtS W5 g1 u ∧ AtS W5 g2 bb) ⟨Lib.hid (own_keep HO4.out ((Below.refl _ _).alloc (Nat.le_refl _) _)), HB4.out.alloc (by have := (own_blkK HO4.out).2; omega) _, ⟨⟨cell_keep ((Below.refl _ _).alloc (Nat.le_refl _) _) m0, cell_keep ((Below.refl _ _).alloc (Nat.le_refl _) _) m1, cell_keep ((Below.refl _ _).alloc (Nat.le_refl _) _) m2⟩, by simp [go_sem, f0, hz4], by simp [go_sem, f1, hz4], by simp [go_sem, f2, hz4]⟩, by rw [hg2]; exact ⟨⟨by simp [go_sem], by simp [go_sem], by simp [go_sem]⟩, by simp [go_sem], by simp [go_sem], by simp [go_sem]⟩⟩ ?_
          rintro W5 ⟨HO5, hb5, hA5, hC5⟩
          rw [← hg2]
          have HB5 := Lib.hid hb5
          clear m0 m1 m2 f0 f1 f2 HO4 HB4 hA4 k0 k1 k2 n0 n1 n2 hsv hlv hov hb5 hg2 e0 e1 e2 fe0 fe1 fe2 hz4
          obtain ⟨⟨m0, m1, m2⟩, f0, f1, f2⟩ := hA5
          obtain ⟨⟨t0, t1, t2⟩, -⟩ := hC5
          obtain ⟨⟨e0, e1, e2⟩, fe0, fe1, fe2⟩ := own_getS HO5.out htl
          rw [hbl] at e0 e1 e2
          clear hbl
          by_cases l1 : u.bars < bb.bars
          ·have HBE := Lib.hid (show bestI F ln kerf (dpL F ln kerf (S - 1)) S (i + 1) = u by rw [HSO.out u HU.out, if_pos (by unfold ltS; simp [l1])])
           have l1' : (u.bars : Int) < (bb.bars : Int) := by omega
           clear l1
           go_upto_region 24 with fail
           go_wp2_with fail
           go_roundw
           case rel =>
            refine ⟨i + 1, by omega, by go_num, Lib.hid ?_, (HB5.out.setCell (Nat.le_refl _) _).setCell (Nat.le_refl _) _ |>.setCell (Nat.le_refl _) _⟩
            have h := own_putS u HO5.out htl
            rw [List.set_set] at h
            rw [HBE.out]
            exact h
           case measure => first | (simp [intOf]; done) | (simp [intOf]; omega)
          ·have l1' : ¬ (u.bars : Int) < (bb.bars : Int) := by omega
           by_cases l2 : u.bars = bb.bars
           ·have l2' : ((u.bars : Int) == (bb.bars : Int)) = true := by rw [l2]; simp
            by_cases l3 : u.used < bb.used
            ·have HBE := Lib.hid (show bestI F ln kerf (dpL F ln kerf (S - 1)) S (i + 1) = u by rw [HSO.out u HU.out, if_pos (by unfold ltS; simp [l2, l3])])
             clear l1 l2
             go_upto_region 24 with fail
             go_wp2_with fail
             go_roundw
             case rel =>
              refine ⟨i + 1, by omega, by go_num, Lib.hid ?_, (HB5.out.setCell (Nat.le_refl _) _).setCell (Nat.le_refl _) _ |>.setCell (Nat.le_refl _) _⟩
              have h := own_putS u HO5.out htl
              rw [List.set_set] at h
              rw [HBE.out]
              exact h
             case measure => first | (simp [intOf]; done) | (simp [intOf]; omega)
            ·have HBE := Lib.hid (show bestI F ln kerf (dpL F ln kerf (S - 1)) S (i + 1) = bb by rw [HSO.out u HU.out, if_neg (by unfold ltS; simp [l1, l3])])
             clear l1 l2
             go_wp2_with fail
             go_roundw
             case rel => exact ⟨i + 1, by omega, by go_num, by rw [HBE.out]; exact HO5, HB5.out⟩
             case measure => first | (simp [intOf]; done) | (simp [intOf]; omega)
           ·have l2' : ((u.bars : Int) == (bb.bars : Int)) = false := by rw [beq_eq_false_iff_ne]; omega
            have HBE := Lib.hid (show bestI F ln kerf (dpL F ln kerf (S - 1)) S (i + 1) = bb by rw [HSO.out u HU.out, if_neg (by unfold ltS; simp [l1, l2])])
            clear l1 l2
            go_wp2_with fail
            go_roundw
            case rel => exact ⟨i + 1, by omega, by go_num, by rw [HBE.out]; exact HO5, HB5.out⟩
            case measure => first | (simp [intOf]; done) | (simp [intOf]; omega)
     ·obtain rfl : i = ln.length := by omega
      have hii : ¬ ((ln.length : Nat) : Int) < ((ln.length : Nat) : Int) := by omega
      have v1 : IntKind.i64.wrap ((S : Int) + 1) = (S : Int) + 1 := IntWalk.i64_in _ (by omega)
      have HNX := Lib.hid (tabL_next F ln kerf hS1 hlt)
      clear hsv hlv hov n0 n1 n2
      go_wp2_with fail
      go_roundw
      case rel => exact ⟨S + 1, by omega, by omega, by go_num, by rw [← HNX.out]; exact HO, HBK.out⟩
      case measure => first | (simp [intOf]; done) | (simp [intOf]; omega)
   ·obtain rfl : S = N := by omega
    have hSi : ¬ ((S : Nat) : Int) < ((S : Nat) : Int) := by omega
    have HO := Lib.hid (show wr.ownsRow gB 88 3 (.slice (some ⟨gB, 0, none⟩) S S) S ((dpL F ln kerf (S - 1)).flatMap cellsS) by rw [← tabL_all F ln kerf]; exact HO.out)
    clear HBR
    obtain ⟨wt, rfl⟩ : ∃ wt : World, wt = wr := ⟨_, rfl⟩
    have HBR := Lib.hid hbr
    obtain ⟨hX0, ⟨n0, n1, n2⟩, hX2, hX3, hX4⟩ := HX.out.keep (show Below W0.heap.size W0 wt by rw [← HGB.out]; exact hbr)
    obtain ⟨q0, q1, q2⟩ := hX0
    have hmr := fun W => make_lists W st.length (by omega)
    clear hbr hX2 hX3 hX4
    go_upto_region 27 with fail
    obtain ⟨gO, hgO⟩ : ∃ g, g = wt.heap.size := ⟨_, rfl⟩
    have HTAB : ∀ W, Below gO wt W → ∀ j, j < S → (W.cell? ⟨gB, j * 3, none⟩ = some (.int .i64 (dp F ln kerf j).bars) ∧ W.cell? ⟨gB, j * 3 + 1, none⟩ = some (.int .i64 (dp F ln kerf j).used) ∧ W.cell? ⟨gB, j * 3 + 2, none⟩ = some (.int .i64 (dp F ln kerf j).last)) := fun W hb j hj => by
     have hjl : j < (dpL F ln kerf (S - 1)).length := by rw [dpL_len]; omega
     have h := own_getS HO.out hjl
     have e : (dpL F ln kerf (S - 1))[j] = dp F ln kerf j := by
      have h1 := dpL_get F ln kerf (show j ≤ S - 1 by omega)
      rw [List.getD_eq_getElem?_getD, List.getElem?_eq_getElem hjl] at h1
      exact h1
     rw [e] at h
     have hlt : gB < gO := by rw [hgO]; exact hzB
     exact ⟨(hb.cell (p := ⟨gB, j * 3, none⟩) hlt).trans h.1.1, (hb.cell (p := ⟨gB, j * 3 + 1, none⟩) hlt).trans h.1.2.1, (hb.cell (p := ⟨gB, j * 3 + 2, none⟩) hlt).trans h.1.2.2⟩
    have HTAB := Lib.hid HTAB
    have HXB := Lib.hid (fun W (hb : Below gO wt W) => HX.out.keep (show Below W0.heap.size W0 W by rw [← HGB.out]; exact HBR.out.trans (hb.mono (by rw [hgO]; exact Nat.le_of_lt hzB))))
    refine gen_world (fun W8 => Desk W8 gO (slotsN gO 0 (List.replicate st.length [])) (fun _ _ => False) ∧ Below gO wt W8) ⟨desk_none (Nat.le_refl _) (fun i hi => by rw [hgO]; exact made_none hi), (Below.refl _ _).alloc (by rw [hgO]; exact Nat.le_refl _) _⟩ ?_
    rintro W8 ⟨hD8, hb8⟩
    rw [← hgO] at hzB ⊢
    have HD8 := Lib.hid hD8
    have HB8 := Lib.hid hb8
    have HGO := Lib.hid hgO
    clear hD8 hb8 hgO n0 n1 n2 q0 q1 q2 hmr
    have hSN0 : 0 < S := by omega
    have v1 : IntKind.i64.wrap ((S : Int) - 1) = ((S - 1 : Nat) : Int) := by rw [show (S : Int) - 1 = ((S - 1 : Nat) : Int) by omega]; exact IntWalk.i64_in _ (by omega)
    obtain ⟨NB, hNB⟩ : ∃ NB, NB = back F ln kerf (S - 1) (S - 1) := ⟨_, rfl⟩
    have HNB := Lib.hid hNB
    clear hNB
    obtain ⟨R, hR⟩ : ∃ R, R = S - 1 := ⟨_, rfl⟩
    rw [← hR] at HNB v1
    have HR := Lib.hid hR
    clear hR
    have HWX := Lib.hid (fun W (hb : Below gO wt W) => HBW.out.trans ((HBR.out.trans (hb.mono (Nat.le_of_lt hzB))).mono (by have := HBW.out.size; rw [HGB.out]; exact this)))
    go_wp2_with fail
    go_loopw [14] (fun sv wk => ∃ (Z f : Nat) (rows : List (List Nat)), Z ≤ f ∧ f ≤ R ∧ Z ≤ R ∧ sv = .int .i64 (Z : Int) ∧ Hid ((dp F ln kerf Z = nev F → Z = R) ∧ (dp F ln kerf R = nev F → Z = R)) ∧ Hid (layR (longM st) NB (List.replicate st.length []) = layR (longM st) (back F ln kerf f Z) rows) ∧ Hid (rows.length = st.length ∧ (∀ b, (rows.getD b []).length + f ≤ R) ∧ ∀ r ∈ rows, ∀ x ∈ r, x ≤ 10) ∧ Hid (Desk wk gO (slotsN gO 0 rows) (fun _ _ => False)) ∧ Below gO wt wk) (fun sv _ => (intOf sv).toNat)
    case atStart => exact ⟨R, R, List.replicate st.length [], Nat.le_refl _, Nat.le_refl _, Nat.le_refl _, rfl, Lib.hid ⟨fun _ => rfl, fun _ => rfl⟩, Lib.hid (by rw [HNB.out]), Lib.hid ⟨by simp, fun b => by rw [List.getD_eq_getElem?_getD, List.getElem?_replicate]; split <;> simp, fun r hr => by rw [List.mem_replicate] at hr; rw [hr.2]; simp⟩, HD8, HB8.out⟩
    case round =>
     obtain ⟨Z, f, rows, hZf, hfR, hZR, rfl, HNE, HLY, HRW, HD, hbk⟩ := hrel
     have HBK := Lib.hid hbk
     have hRS : R < S := by have := HR.out; omega
     clear hbk
     by_cases hpos : 0 < Z
     ·have hp' : (Z : Int) > 0 := by omega
      have hZS : (Z : Int) < (S : Int) := by omega
      obtain ⟨d0, d1, d2⟩ := HTAB.out _ HBK.out Z (by omega)
      obtain ⟨hX0, ⟨n0, n1, n2⟩, hsv, hlv, hov⟩ := HXB.out _ HBK.out
      by_cases hnev : dp F ln kerf Z = nev F
      ·have HP := Lib.hid (show ∀ w', Below w.heap.size w w' → CrossPost w st ln kerf (.returned (.tuple #[.slice none 0 0, .int .i64 12])) w' from fun w' hb => ⟨hb, .inr (.inl ⟨HE.out, by rw [← HF.out, ← HN.out, ← HR.out, ← HNE.out.1 hnev]; exact hnev, rfl⟩)⟩)
       have hb0 : ((dp F ln kerf Z).bars : Int) = (st.length : Int) + 1 := by rw [hnev]; unfold nev; rw [HFL.out]; simp
       have hb1 : (dp F ln kerf Z).used = 0 := by rw [hnev]; rfl
       have hb2 : ((dp F ln kerf Z).last : Int) = 0 := by rw [hnev]; rfl
       rw [hb0] at d0; rw [hb1] at d1; rw [hb2] at d2
       clear hb0 hb1 hb2 hnev
       go_upto_region 30 with fail
       go_quiet (fail)
       rename_i nq
       go_wp2_with fail
       go_ret2
       exact HP.out _ (HWX.out _ (below_drewN HBK.out nq))
      ·obtain ⟨i, hi, hbit, hnQ, hst⟩ := dp_from F ln kerf hpos hnev
       obtain ⟨b1, b2, b3⟩ := step_bars F ln kerf hst (dp_bars F ln kerf _ _ (Nat.le_refl _) hnQ).1
       have hcl := clr_bit Z i (by omega) (by omega) hbit
       have hcb := clr_lt hbit
       obtain ⟨f', rfl⟩ : ∃ f', f = f' + 1 := ⟨f - 1, by omega⟩
       have hbk : back F ln kerf (f' + 1) Z = ((dp F ln kerf Z).bars - 1, i) :: back F ln kerf f' (Z ^^^ 2 ^ i) := by rw [back, if_neg (by omega), b3]
       have hRn : dp F ln kerf R = nev F → Z ^^^ 2 ^ i = R := fun h => absurd (by rw [HNE.out.2 h]; exact h) hnev
       obtain ⟨Q, hQ⟩ : ∃ Q, Q = Z ^^^ 2 ^ i := ⟨_, rfl⟩
       rw [← hQ] at hcl hcb hbk hRn hnQ
       clear hQ hst hbit
       have HNQ := Lib.hid (show (dp F ln kerf Q = nev F → Q = R) ∧ (dp F ln kerf R = nev F → Q = R) from ⟨fun h => absurd h hnQ, hRn⟩)
       have hpl := HFL.out
       rw [b3] at d2
       have HZL := Lib.hid (show ∀ W, Below gO wt W → W.cell? ⟨gB, Z * 3 + 2, none⟩ = some (.int .i64 (i : Int)) from fun W hb => by
        have h := (HTAB.out W hb Z (by omega)).2.2
        rw [b3] at h
        exact h)
       obtain ⟨r, hr⟩ : ∃ r, (dp F ln kerf Z).bars = r + 1 := ⟨(dp F ln kerf Z).bars - 1, by omega⟩
       have HLY := Lib.hid (show layR (longM st) NB (List.replicate st.length []) = layR (longM st) (back F ln kerf f' Q) (rows.set ((longM st).getD r 0) (rows.getD ((longM st).getD r 0) [] ++ [i])) by rw [HLY.out, hbk, layR, hr]; rfl)
       clear hbk hnQ hRn b3 hnev HNE
       generalize dp F ln kerf Z = p at *
       obtain ⟨m, hm⟩ : ∃ m, m = (longM st).getD r 0 := ⟨_, rfl⟩
       have hrl : r < (longM st).length := by rw [longM_len]; omega
       have hmg : m = (longM st)[r] := by rw [hm, List.getD_eq_getElem?_getD, List.getElem?_eq_getElem hrl]; rfl
       have hmst : m < st.length := by rw [hmg]; exact longM_lt (List.getElem_mem hrl)
       rw [← hm] at HLY
       obtain ⟨bo, oo, hao, hxo⟩ := hov (by intro e; rw [List.map_eq_nil_iff] at e; rw [e] at hrl; simp at hrl)
       have hco := hxo r (m : Int) (by rw [List.getElem?_map, List.getElem?_eq_getElem hrl, ← hmg]; rfl)
       cases hao
       have hbar : ¬ (p.bars : Int) = (st.length : Int) + 1 := by omega
       have v4 : IntKind.i64.wrap ((p.bars : Int) - 1) = (r : Int) := by rw [show (p.bars : Int) - 1 = (r : Int) by omega]; exact IntWalk.i64_in _ (by omega)
       have v4a : ((p.bars : Int) - 1).toNat = r := by omega
       have v4b : 0 ≤ (p.bars : Int) - 1 := by omega
       have v4c : (p.bars : Int) - 1 < (st.length : Int) := by omega
       have v4d : (1 : Int) ≤ (p.bars : Int) := by omega
       have v4e : (p.bars : Int) < (st.length : Int) + 1 := by omega
       have v4f : (p.bars : Int) ≤ (st.length : Int) := by omega
       have v4g : 1 ≤ p.bars := by omega
       have v4h : p.bars ≤ st.length := by omega
       have v4i : p.bars - 1 < st.length := by omega
       have v4k : p.bars < st.length + 1 := by omega
       have hri : (r : Int) < (st.length : Int) := by omega
       have hmi : (m : Int) < (st.length : Int) := by omega
       clear hr hm hmg hrl hxo hpl hsv hlv b1 b2
       go_upto_region 30 with fail
       go_quiet (fail)
       rename_i nq
       go_upto_region 33 with fail
       obtain ⟨hrl, hrf, hrx⟩ := HRW.out
       obtain ⟨x, hx⟩ : ∃ x, x = rows.getD m [] := ⟨_, rfl⟩
       have hxl : x.length + (f' + 1) ≤ R := by rw [hx]; exact hrf m
       have hmr : rows[m]? = some x := by rw [hx, List.getD_eq_getElem?_getD, List.getElem?_eq_getElem (by omega)]; rfl
       have hxs : ∀ y ∈ x, y ≤ 10 := hrx x (List.mem_of_getElem? hmr)
       have HNW := Lib.hid (show (rows.set m (x ++ [i])).length = st.length ∧ (∀ b, ((rows.set m (x ++ [i])).getD b []).length + f' ≤ R) ∧ ∀ r ∈ rows.set m (x ++ [i]), ∀ y ∈ r, y ≤ 10 by
        refine ⟨by rw [List.length_set]; exact hrl, fun b => ?_, fun r hr y hy => ?_⟩
        ·rw [getD_set _ _ _ _ _ (by omega)]
         split
         ·have : (x ++ [i]).length = x.length + 1 := by simp
          omega
         ·have := hrf b; omega
        ·rcases List.mem_or_eq_of_mem_set hr with hr | rfl
         ·exact hrx r hr y hy
         ·rcases List.mem_append.1 hy with hy | hy
          ·exact hxs y hy
          ·rw [List.mem_singleton.1 hy]; omega)
       rw [← hx] at HLY
       have HSG := Lib.hid (slotsN_get (g := gO) (j := 0) hmr)
       have HST := Lib.hid (slotsN_set (g := gO) (rows := rows) (j := 0) (i := m) (x := x ++ [i]))
       clear hrf hrx hxs hx hmr hrl HRW
       refine gen_world (fun W9 => Hid (Desk W9 gO (slotsN gO 0 rows) (fun _ _ => False)) ∧ Below gO wt W9) ⟨Lib.hid (HD.out.keep (below_drewN (Below.refl _ _) nq)), below_drewN HBK.out nq⟩ ?_
       rintro W9 ⟨HD9, hb9⟩
       have HB9 := Lib.hid hb9
       clear d0 d1 d2 n0 n1 n2 hov hco HD HBK hb9
       have d2 := HZL.out _ HB9.out
       obtain ⟨v, n, hv, hvf, hvo, -⟩ := HD9.out.row HSG.out rfl
       have hnx : n = x.length := by have := hvo.1; simpa using this.symm
       subst hnx
       obtain ⟨av, cv, rfl, -, -⟩ := own_slice hvo
       have HVO := Lib.hid hvo
       rw [Nat.zero_add] at hv hvf
       have HV := Lib.hid hv
       have hgw := block_lt_of_cell hv
       have hgw2 := block_lt_of_cell d2
       obtain ⟨i0, hi0, hz0, hz1, hz2⟩ := info_parts int_info
       clear hvo
       have kx : ∀ y : KW (fun W => W.cell? ⟨gO, m, none⟩ = some (.slice av x.length cv) ∧ W.cell? ⟨gB, Z * 3 + 2, none⟩ = some (.int .i64 (i : Int))), y.w.cell? ⟨gO, m, none⟩ = some (.slice av x.length cv) ∧ y.w.cell? ⟨gB, Z * 3 + 2, none⟩ = some (.int .i64 (i : Int)) := fun y => y.ok
       haveI n1 : Nonempty (KW (fun W => W.cell? ⟨gO, m, none⟩ = some (.slice av x.length cv) ∧ W.cell? ⟨gB, Z * 3 + 2, none⟩ = some (.int .i64 (i : Int)))) := ⟨⟨W9, hv, d2⟩⟩
       have HCC := Lib.hid (And.intro hv d2)
       refine wp_region_tree (fun w' => ∃ y : KW (fun W => W.cell? ⟨gO, m, none⟩ = some (.slice av x.length cv) ∧ W.cell? ⟨gB, Z * 3 + 2, none⟩ = some (.int .i64 (i : Int))), w' = y.w) 13 (.take 0 (.take 1 (.take 2 (.take 3 (.take 4 (.take 5 (.take 6 (.take 7 (.take 8 (.take 9 (.take 10 (.one 11 (.one 12 .done))))))))))))) hmix (by kernel_rfl) (KW.mk' ⟨hv, d2⟩) ?_
       have HB4 := Lib.hid (show Below W9.heap.size W9 W9.drew from (Below.refl _ _).drew)
       generalize W9.drew = w4 at *
       have hz4 := HB4.out.size
       repeat (refine wpTree_take ?_; simp only [nthOp]; (first | go_big_quiet_step (fail) | quiet_step (fail)); refine wpQuiet_nil ?_)
       refine wpTree_one ?_
       simp only [nthOp]
       go_wp2_with fail
       refine One_mk (KW.mk' ⟨cell_keep (HB4.out.alloc hz4 _) HCC.out.1, cell_keep (HB4.out.alloc hz4 _) HCC.out.2⟩) ?_
       refine wpTree_one ?_
       simp only [nthOp]
       go_wp2_with (at_builtin; refine wpList_append_here _ rfl _ _ 44 rfl gO 3 i0 (.int .i64 0) 1 8 Tryz.underlying44 hi0 hz0 hz1 hz2 rfl (by decide) _ x.length _ rfl (own_keep HVO.out (HB4.out.alloc hz4 _)) ⟨w4.heap.size, 0, none⟩ 1 1 [.int .i64 (i : Int)] rfl rfl (news_of [.int .i64 (i : Int)] _ _ _ rfl) (by intro u hu; rw [List.mem_singleton.1 hu]; rfl) (by decide) (by simp only [maxLen]; omega) (by omega) (by simp; omega) ?_; intro v8 w8 ho8 hg8 hv8; obtain ⟨a8, cc8, rfl, -, -⟩ := own_slice ho8; have HO8 := Lib.hid ho8; have HG8 := Lib.hid hg8; have HV8 := Lib.hid hv8; clear ho8 hg8 hv8)
       have hbw8 : Below gO wt w8 := ((HB9.out.trans (HB4.out.mono (Nat.le_of_lt hgw))).alloc (by omega) _).grown HG8.out (by simp; omega) (fun k hk => own_base HVO.out hk)
       obtain ⟨c8, f8, hD8⟩ := (HD9.out.keep (HB4.out.alloc hz4 _)).append1 (v := .slice av x.length cv) HSG.out rfl (by rw [Nat.zero_add]; exact cell_keep (HB4.out.alloc hz4 _) HCC.out.1) (by have h := HO8.out; simpa using h) HG8.out HV8.out
       rw [Nat.zero_add] at c8 f8 hD8
       have HBW8 := Lib.hid hbw8
       have HDN := Lib.hid hD8
       clear hbw8 hD8
       refine One_mk (KW.mk' ⟨c8, HZL.out _ HBW8.out⟩) ?_
       refine wpTree_done ?_
       simp only [List.drop_succ_cons, List.drop_zero]
       have hgw8 := block_lt_of_cell c8
       go_wp2_with fail
       refine NP_mk ?_
       go_upto_region 29 with fail
       refine gen_world (fun WX => Hid (Desk WX gO (slotsN gO 0 (rows.set m (x ++ [i]))) (fun _ _ => False)) ∧ Below gO wt WX) ⟨Lib.hid ?_, HBW8.out.setCell (Nat.le_refl _) _⟩ ?_
       ·have h := HST.out
        rw [Nat.zero_add] at h
        rw [← h]
        have h2 := HDN.out
        rw [show slotN ⟨gO, m, none⟩ (x ++ [i]) = { a := some ⟨gO, m, none⟩, e := 3, k := 1, xs := (x.map fun i : Nat => (i : Int)).map (Value.int .i64) ++ [.int .i64 (i : Int)] } by simp [slotN]]
        exact h2
       clear HDN HBW8 HO8 HG8 HV8 c8 f8 hgw8 kx n1 HCC HB4 hz4 HV hv hvf HVO HD9 HB9 HST HSG
       rintro WX ⟨HDX, hbX⟩
       have HBX := Lib.hid hbX
       have d2 := HZL.out _ hbX
       clear hbX
       go_wp2_with fail
       go_roundw
       case rel => exact ⟨Q, f', rows.set m (x ++ [i]), by omega, by omega, by omega, rfl, HNQ, HLY, HNW, HDX, HBX.out⟩
       case measure => first | (simp [intOf]; done) | (simp [intOf]; omega)
     ·obtain rfl : Z = 0 := by omega
      have hp' : ¬ ((0 : Nat) : Int) > 0 := by omega
      have HNV := Lib.hid (show dp F ln kerf R ≠ nev F from fun h => by
       have h1 := HNE.out.2 h
       rw [← h1, dp_zero] at h
       unfold nev at h
       injection h with h
       omega)
      have HLF := Lib.hid (show rows = layR (longM st) NB (List.replicate st.length []) by
       rw [HLY.out]
       cases f with
       | zero => rfl
       | succ f => rw [back, if_pos rfl]; rfl)
      obtain ⟨hrl, hrn, hrx⟩ := HRW.out
      have HRLN := Lib.hid (show ∀ b, (rows.getD b []).length ≤ 1024 from fun b => by have := hrn b; omega)
      clear hrn
      have HRX := Lib.hid hrx
      have HRL := Lib.hid hrl
      clear HNE HLY HRW hrl hrx
      go_wp2_with fail
      go_loopw [203] (fun kv wk => ∃ (k : Nat) (rs : List (List Nat)), k ≤ st.length ∧ kv = .int .i64 (k : Int) ∧ Hid (RowsPerm rs rows ∧ ∀ j, j < k → (rs.getD j []).Pairwise (· ≤ ·)) ∧ Hid (Desk wk gO (slotsN gO 0 rs) (fun _ _ => False)) ∧ Below gO wt wk) (fun kv _ => st.length - (intOf kv).toNat)
      case atStart => exact ⟨0, rows, Nat.zero_le _, rfl, Lib.hid ⟨⟨rfl, fun _ _ => List.Perm.refl _⟩, fun j h => by omega⟩, HD, HBK.out⟩
      case round =>
       obtain ⟨k, rs, hk', rfl, HPR, HD, hbk⟩ := hrel
       have HBK := Lib.hid hbk
       clear hbk
       by_cases hlt : k < st.length
       ·have hki : (k : Int) < (st.length : Int) := by omega
        have v1 : IntKind.i64.wrap ((k : Int) + 1) = (k : Int) + 1 := IntWalk.i64_in _ (by omega)
        obtain ⟨⟨hpl, hpp⟩, hps⟩ := HPR.out
        have hrl := HRL.out
        obtain ⟨x, hx⟩ : ∃ x, x = rs.getD k [] := ⟨_, rfl⟩
        have hkr : rs[k]? = some x := by rw [hx, List.getD_eq_getElem?_getD, List.getElem?_eq_getElem (by omega)]; rfl
        have hxp : x.Perm (rows.getD k []) := by rw [hx]; exact hpp k (by omega)
        have hxl : x.length < 1000000 := by
         rw [hxp.length_eq]
         have h2 : rows.getD k [] = rows[k]'(by omega) := by rw [List.getD_eq_getElem?_getD, List.getElem?_eq_getElem (by omega)]; rfl
         have := HRLN.out k
         omega
        have HSG := Lib.hid (slotsN_get (g := gO) (j := 0) hkr)
        have HST := Lib.hid (fun y => slotsN_set (g := gO) (rows := rs) (j := 0) (i := k) (x := y))
        have HNW := Lib.hid (show ∀ y : List Nat, y.Perm x → y.Pairwise (· ≤ ·) → RowsPerm (rs.set k y) rows ∧ ∀ j, j < k + 1 → ((rs.set k y).getD j []).Pairwise (· ≤ ·) from fun y hy1 hy2 => by
         refine ⟨⟨by rw [List.length_set]; exact hpl, fun j hj => ?_⟩, fun j hj => ?_⟩
         ·rw [getD_set _ _ _ _ _ (by omega)]
          split
          ·rename_i e; subst e; exact hy1.trans hxp
          ·exact hpp j hj
         ·rw [getD_set _ _ _ _ _ (by omega)]
          split
          ·exact hy2
          ·exact hps j (by omega))
        have HKR := Lib.hid hkr
        clear hpl hpp hps hxp hx hkr hrl HPR
        obtain ⟨v, n, hv, hvf, hvo, -⟩ := HD.out.row HSG.out rfl
        have hnx : n = x.length := by have := hvo.1; simpa using this.symm
        subst hnx
        rw [Nat.zero_add] at hv hvf
        have HSM := Lib.hid (show ((x.mergeSort fun a b => decide (a ≤ b)).map fun i : Nat => (i : Int)) = (x.map fun i : Nat => (i : Int)).mergeSort fun a b => decide (a ≤ b) from List.map_mergeSort (fun a _ b _ => by simp))
        have HPM := Lib.hid (HNW.out _ (List.mergeSort_perm x _) (by
         have h := List.pairwise_mergeSort (le := fun a b : Nat => decide (a ≤ b)) (fun a b c h1 h2 => by simp at *; omega) (fun a b => by simp; omega) x
         exact h.imp fun h => by simpa using h))
        clear HNW
        rcases hvo.2 with ⟨hv0, hx0⟩ | ⟨g, cap, cur, hv0, -⟩
        ·subst hv0
         obtain rfl := List.length_eq_zero_iff.1 hx0
         clear hvo hx0
         have HPM := Lib.hid (show RowsPerm (rs.set k []) rows ∧ ∀ j, j < k + 1 → ((rs.set k []).getD j []).Pairwise (· ≤ ·) from by have h := HPM.out; rwa [List.mergeSort_nil] at h)
         have hkr0 := HKR.out
         have HSE := Lib.hid (show rs.set k [] = rs from by
          obtain ⟨q1, q2⟩ := List.getElem?_eq_some_iff.1 hkr0
          rw [← q2, List.set_getElem_self])
         clear hkr0
         go_wp2_with (go_at_call 34; refine (Tryz.slices_Sort_int_none none 0 _).mono ?_; rintro e w1 ⟨rfl, rfl⟩)
         go_roundw
         case rel => exact ⟨k + 1, rs, by omega, by go_num, by rw [HSE.out] at HPM; exact HPM, HD, HBK.out⟩
         case measure => first | (simp [intOf]; done) | (simp [intOf]; omega)
        ·subst hv0
         have HSRT := Lib.hid (fun w9 (hb : Below wr.heap.size wr w9) => sort_n g cap (x.map fun i : Nat => (i : Int)) w9 gO (by rw [List.length_map]; exact own_keep hvo hb) (by rw [List.length_map]; exact hxl))
         have HVO := Lib.hid hvo
         have HHV := Lib.hid hv
         have HSRT := Lib.hid (show Calls Tryz.prog 34 #[.slice (some ⟨g, 0, none⟩) x.length cap] wr _ from by
          have h := HSRT.out wr (Below.refl _ _)
          rw [List.length_map] at h
          exact h)
         clear hvo hvf
         go_wp2_with (go_at_call 34; refine HSRT.out.mono ?_; rintro e w1 ⟨rfl, ho1, hg1⟩; have HO1 := Lib.hid ho1; have HG1 := Lib.hid hg1; clear ho1 hg1)
         go_roundw
         case rel =>
          refine ⟨k + 1, rs.set k (x.mergeSort fun a b => decide (a ≤ b)), by omega, by go_num, HPM, Lib.hid ?_, HBK.out.grown HG1.out (Nat.le_of_lt (block_lt_of_cell HHV.out)) (fun q hq => own_base HVO.out hq)⟩
          have h1 := HO1.out
          rw [← HSM.out] at h1
          have h2 := HD.out.renew (v := .slice (some ⟨g, 0, none⟩) x.length cap) HSG.out rfl (by rw [Nat.zero_add]; exact HHV.out) h1 HG1.out
          have h3 := HST.out (x.mergeSort fun a b => decide (a ≤ b))
          rw [← h3]
          exact h2
         case measure => first | (simp [intOf]; done) | (simp [intOf]; omega)
       ·obtain rfl : k = st.length := by omega
        have hki : ¬ ((st.length : Nat) : Int) < ((st.length : Nat) : Int) := by omega
        obtain ⟨hpm, hps⟩ := HPR.out
        have hrs : rs.length = st.length := by rw [hpm.1, HRL.out]
        have HFI := Lib.hid (show CrossPost w st ln kerf (.returned (.tuple #[.slice (some ⟨gO, 0, none⟩) st.length st.length, .int .i64 0])) wr from by
         refine ⟨HWX.out _ HBK.out, .inr (.inr ⟨HE.out, by rw [← HF.out, ← HN.out, ← HR.out]; exact HNV.out, some ⟨gO, 0, none⟩, st.length, rs, ?_, fun r hr => ?_, by rw [hrs], ?_⟩)⟩
         ·rw [← HF.out, ← HN.out, ← HR.out, ← HNB.out, ← HLF.out]; exact hpm
         ·obtain ⟨j, hj, rfl⟩ := List.mem_iff_getElem.1 hr
          have := hps j (by omega)
          rwa [List.getD_eq_getElem?_getD, List.getElem?_eq_getElem hj] at this
         ·refine desk_rows HD.out fun r hr y hy => ?_
          obtain ⟨j, hj, rfl⟩ := List.mem_iff_getElem.1 hr
          have h1 := hpm.2 j (by rw [← hpm.1]; exact hj)
          rw [List.getD_eq_getElem?_getD, List.getElem?_eq_getElem hj, List.getD_eq_getElem?_getD, List.getElem?_eq_getElem (by rw [← hpm.1]; exact hj)] at h1
          have := HRX.out _ (List.getElem_mem (by rw [← hpm.1]; exact hj)) y (h1.mem_iff.1 hy)
          omega)
        clear hpm hps hrs
        go_wp2_with fail
        go_ret2
        exact HFI.out
 ·have HE := Lib.hid he
  have hne : (crossE st ln kerf != 0) = true := by simpa using he
  obtain ⟨E, hE⟩ : ∃ E, E = crossE st ln kerf := ⟨_, rfl⟩
  have HP := Lib.hid (show ∀ w', Below w.heap.size w w' → CrossPost w st ln kerf (.returned (.tuple #[.slice none 0 0, .int .i64 E])) w' from fun w' hb => ⟨hb, .inl ⟨he, by rw [hE]⟩⟩)
  rw [← hE] at hne
  have HEE := Lib.hid hE
  clear he hE HE
  go_enter Tryz.func16, Tryz.ntmps16
  go_wp2_with (go_at_call 30; refine (checkCross_any a1 a2 st ln c1 c2 kerf _ (intsV_keep hv1 ((Below.refl _ _).alloc (Nat.le_refl _) _)) (intsV_keep hv2 ((Below.refl _ _).alloc (Nat.le_refl _) _)) hl1 hl2).mono ?_; rw [← HEE.out]; rintro e w1 ⟨rfl, hb⟩; have HB1 := Lib.hid hb; clear hb)
  go_ret2
  exact HP.out _ (((Below.refl _ _).alloc (Nat.le_refl _) _).trans (HB1.out.mono (by simp)))
end Go.Proofs.YtoelfalmmaddlaaGreat
