/- What the table of crosscuts works with: its states in memory, its operations on bits, its rows of numbers. -/
import Derived.Test.YtoelfalmmaddlaaBP
set_option linter.unusedVariables false
set_option linter.unusedSimpArgs false
namespace Go.Proofs.Ytoelfalmmaddlaa
open Go Go.RowKit Go.Sort Go.Lib

/-! Bits. -/
theorem bv_and_one (x : Nat) (hx : x < 2 ^ 63) : ((BitVec.ofInt 64 (x : Int) &&& BitVec.ofInt 64 1).toNat) = x % 2 := by
  rw [BitVec.ofInt_natCast, show (BitVec.ofInt 64 1) = BitVec.ofNat 64 1 from rfl, BitVec.toNat_and, BitVec.toNat_ofNat, BitVec.toNat_ofNat]
  rw [Nat.mod_eq_of_lt (by omega), show 1 % 2 ^ 64 = 1 from rfl, Nat.and_one_is_mod]
theorem bv_clr (S i : Nat) (hS : S < 2 ^ 63) (hi : i < 63) (hb : S.testBit i = true) : ((BitVec.ofInt 64 (S : Int) &&& ~~~ BitVec.ofInt 64 ((2 ^ i : Nat) : Int)).toNat) = S ^^^ 2 ^ i := by
  have h2 : 2 ^ i < 2 ^ 64 := Nat.pow_lt_pow_right (by omega) (by omega)
  rw [BitVec.ofInt_natCast, BitVec.ofInt_natCast]
  refine Nat.eq_of_testBit_eq fun j => ?_
  rw [BitVec.testBit_toNat, BitVec.getLsbD_and, BitVec.getLsbD_not, BitVec.getLsbD_ofNat, BitVec.getLsbD_ofNat, Nat.testBit_xor, Nat.testBit_two_pow]
  by_cases hj : j < 64
  · by_cases e : i = j
    · subst e; simp [hj, hb]
    · simp [hj, e]
  · have hs : S.testBit j = false := Nat.testBit_lt_two_pow (Nat.lt_of_lt_of_le hS (Nat.pow_le_pow_right (by omega) (by omega)))
    have e : ¬ i = j := by omega
    simp [hj, hs, e]
theorem fdiv_bit (S i : Nat) : (S : Int).fdiv (2 ^ i) = ((S / 2 ^ i : Nat) : Int) := by
  rw [Int.fdiv_eq_ediv_of_nonneg _ (by have : (0:Int) < 2 ^ i := Int.pow_pos (by omega); omega)]
  push_cast
  rfl
theorem bit_div (S i : Nat) : S / 2 ^ i % 2 = if S.testBit i = true then 1 else 0 := by
  rw [Nat.testBit_eq_decide_div_mod_eq]
  by_cases h : S / 2 ^ i % 2 = 1
  · simp [h]
  · have : S / 2 ^ i % 2 = 0 := by omega
    simp [this]

theorem and_bit (S i : Nat) (hS : S < 2 ^ 62) : Go.bits .and .i64 ((S : Int) / 2 ^ i) 1 = ((S / 2 ^ i % 2 : Nat) : Int) := by
  have h1 := bv_and_one (S / 2 ^ i) (Nat.lt_of_le_of_lt (Nat.div_le_self S (2 ^ i)) (by omega))
  have h2 : (S : Int) / 2 ^ i = ((S / 2 ^ i : Nat) : Int) := by push_cast; rfl
  rw [h2]
  show IntKind.i64.wrap ((BitVec.ofInt 64 ((S / 2 ^ i : Nat) : Int) &&& BitVec.ofInt 64 1).toNat : Int) = _
  rw [h1]
  exact IntWalk.i64_in _ (by omega)
theorem pow_64 {i : Nat} (hi : i ≤ 10) : wrap64 (2 ^ i) = ((2 ^ i : Nat) : Int) := by
  have h1 : 2 ^ i ≤ 2 ^ 10 := Nat.pow_le_pow_right (by omega) hi
  have h2 : ((2 : Int) ^ i) = ((2 ^ i : Nat) : Int) := by push_cast; rfl
  rw [h2]
  clear h2
  generalize 2 ^ i = M at *
  exact IntWalk.wrap64_in _ (by omega)
theorem clr_bit (S i : Nat) (hS : S < 2 ^ 62) (hi : i ≤ 10) (hb : S.testBit i = true) : Go.bits .andNot .i64 (S : Int) (wrap64 (2 ^ i)) = ((S ^^^ 2 ^ i : Nat) : Int) := by
  have h1 := bv_clr S i (by omega) (by omega) hb
  have h2 := clr_lt hb
  rw [pow_64 hi]
  show IntKind.i64.wrap ((BitVec.ofInt 64 (S : Int) &&& ~~~ BitVec.ofInt 64 ((2 ^ i : Nat) : Int)).toNat : Int) = _
  rw [h1]
  exact IntWalk.i64_in _ (by omega)

/-! States, as they lie. -/
def cellsS (s : Sta) : List Value := [.int .i64 s.bars, .int .i64 s.used, .int .i64 s.last]
theorem cellsS_len (s : Sta) : (cellsS s).length = 3 := rfl
theorem own_putS {w : World} {base e n g cap : Nat} {l : List Sta} {i : Nat} (q : Sta) (h : w.ownsRow base e 3 (.slice (some ⟨g, 0, none⟩) n cap) n (l.flatMap cellsS)) (hi : i < l.length) :
    (((w.setCell ⟨g, i * 3, none⟩ (.int .i64 q.bars)).setCell ⟨g, i * 3 + 1, none⟩ (.int .i64 q.used)).setCell ⟨g, i * 3 + 2, none⟩ (.int .i64 q.last)).ownsRow base e 3 (.slice (some ⟨g, 0, none⟩) n cap) n ((l.set i q).flatMap cellsS) := by
  have h0 := own_setCell (c := 0) (x' := ⟨q.bars, l[i].used, l[i].last⟩) (u := .int .i64 q.bars) cellsS_len h (by decide) hi (by decide) rfl
  have h1 := own_setCell (c := 1) (i := i) (x' := ⟨q.bars, q.used, l[i].last⟩) (u := .int .i64 q.used) cellsS_len h0 (by decide) (by simpa using hi) (by decide) (by rw [List.getElem_set_self]; rfl)
  rw [List.set_set] at h1
  have h2 := own_setCell (c := 2) (i := i) (x' := ⟨q.bars, q.used, q.last⟩) (u := .int .i64 q.last) cellsS_len h1 (by decide) (by simpa using hi) (by decide) (by rw [List.getElem_set_self]; rfl)
  rw [List.set_set] at h2
  exact h2
theorem own_getS {w : World} {base e n g cap : Nat} {l : List Sta} {i : Nat} (h : w.ownsRow base e 3 (.slice (some ⟨g, 0, none⟩) n cap) n (l.flatMap cellsS)) (hi : i < l.length) :
    (w.cell? ⟨g, i * 3, none⟩ = some (.int .i64 l[i].bars) ∧ w.cell? ⟨g, i * 3 + 1, none⟩ = some (.int .i64 l[i].used) ∧ w.cell? ⟨g, i * 3 + 2, none⟩ = some (.int .i64 l[i].last)) ∧
      (w.frozen? ⟨g, i * 3, none⟩ = false ∧ w.frozen? ⟨g, i * 3 + 1, none⟩ = false ∧ w.frozen? ⟨g, i * 3 + 2, none⟩ = false) := by
  obtain ⟨g', cap', hv, _, _, _, _, _, hc⟩ := own_cells cellsS_len h (by rintro rfl; simp at hi) (by decide)
  injection hv with ha _ _
  injection ha with ha
  injection ha with ha
  subst ha
  have c0 := hc i hi 0 (by decide)
  have c1 := hc i hi 1 (by decide)
  have c2 := hc i hi 2 (by decide)
  exact ⟨⟨c0.1, c1.1, c2.1⟩, ⟨c0.2, c1.2, c2.2⟩⟩
theorem flat_zeroS (n : Nat) : (List.replicate n (⟨0, 0, 0⟩ : Sta)).flatMap cellsS = List.replicate (n * 3) (.int .i64 0) := by
  induction n with
  | zero => rfl
  | succ n ih => rw [List.replicate_succ, List.flatMap_cons, ih, show cellsS ⟨0, 0, 0⟩ = List.replicate 3 (.int .i64 0) from rfl, List.replicate_append_replicate]; congr 1; omega
theorem made_toListS (n : Nat) : (madeCells #[.int .i64 0, .int .i64 0, .int .i64 0] n).toList = List.replicate n (.int .i64 0) := by
  apply List.ext_getElem
  · simp [madeCells]
  · intro j h1 h2
    simp only [madeCells, Array.toList_map, List.getElem_map, List.getElem_replicate]
    have h3 : j % 3 < 3 := Nat.mod_lt _ (by decide)
    have : j % 3 = 0 ∨ j % 3 = 1 ∨ j % 3 = 2 := by omega
    simp
    rcases this with h | h | h <;> simp [h]
theorem state_info : (Try.prog.info? 59).map (fun i => (i.zero, i.size, i.bytes)) = some (some (.agg #[.int .i64 0, .int .i64 0, .int .i64 0]), 3, 24) := by kernel_rfl
theorem ints_info : (Try.prog.info? 22).map (fun i => (i.zero, i.size, i.bytes)) = some (some (.slice none 0 0), 1, 24) := by kernel_rfl
theorem make_states (W : World) (n : Nat) (hn : n ≤ 100000) : (Instr.makeSlice 60 (.int .i64 (n : Int)) (.int .i64 (n : Int))).run Try.prog W = .ok (.slice (some ⟨W.heap.size, 0, none⟩) n n) (W.alloc (.cells (madeCells #[.int .i64 0, .int .i64 0, .int .i64 0] (n * 3)) 59)) := by
  obtain ⟨n0, hn0, hx0, hx1, hx2⟩ := info_parts state_info
  have := run_make (P := Try.prog) W 60 59 n0 (.agg #[.int .i64 0, .int .i64 0, .int .i64 0]) Try.underlying60 hn0 hx0 .i64 .i64 (n : Int) (n : Int) (by omega) (Int.le_refl _) (by rw [hx2]; omega) (by omega)
  rw [this]
  simp [hx1, Value.cells]
theorem made_states {w : World} {base n : Nat} {T : TypeId} (hb : base ≤ w.heap.size) (hn : n ≤ maxLen) : (w.alloc (.cells (madeCells #[.int .i64 0, .int .i64 0, .int .i64 0] (n * 3)) T)).ownsRow base T 3 (.slice (some ⟨w.heap.size, 0, none⟩) n n) n ((List.replicate n (⟨0, 0, 0⟩ : Sta)).flatMap cellsS) := by
  refine ⟨by rw [flat_zeroS]; simp, .inr ⟨w.heap.size, n, madeCells #[.int .i64 0, .int .i64 0, .int .i64 0] (n * 3), rfl, hb, heap_alloc_new w _, Nat.le_refl _, hn, by simp [size_madeCells], ?_⟩⟩
  rw [made_toListS, flat_zeroS, List.take_of_length_le (by simp)]
theorem make_lists (W : World) (n : Nat) (hn : n ≤ 100000) : (Instr.makeSlice 26 (.int .i64 (n : Int)) (.int .i64 (n : Int))).run Try.prog W = .ok (.slice (some ⟨W.heap.size, 0, none⟩) n n) (W.alloc (.cells (madeCells #[.slice none 0 0] n) 22)) := by
  obtain ⟨n0, hn0, hx0, hx1, hx2⟩ := info_parts ints_info
  have := run_make (P := Try.prog) W 26 22 n0 (.slice none 0 0) Try.underlying26 hn0 hx0 .i64 .i64 (n : Int) (n : Int) (by omega) (Int.le_refl _) (by rw [hx2]; omega) (by omega)
  rw [this]
  simp [hx1, Value.cells]
theorem shl_one {n N : Nat} (h : N = 2 ^ n) (hn : n ≤ 10) : IntKind.i64.wrap (1 * 2 ^ (min (n : Int).toNat 64)) = (N : Int) := by
  rw [Int.toNat_natCast, Nat.min_eq_left (by omega), Int.one_mul, h]
  have h1 : 2 ^ n ≤ 2 ^ 10 := Nat.pow_le_pow_right (by omega) hn
  rw [show ((2 : Int) ^ n) = ((2 ^ n : Nat) : Int) by push_cast; rfl]
  exact IntWalk.i64_in _ (by omega)
theorem own_blkK {w : World} {base e k n g cap : Nat} {xs : List Value} (h : w.ownsRow base e k (.slice (some ⟨g, 0, none⟩) n cap) n xs) : base ≤ g ∧ g < w.heap.size := h.lt g rfl
theorem shl_64 {n N : Nat} (h : N = 2 ^ n) (hn : n ≤ 10) : wrap64 (2 ^ n) = (N : Int) := by
  have h1 : 2 ^ n ≤ 2 ^ 10 := Nat.pow_le_pow_right (by omega) hn
  rw [h, show ((2 : Int) ^ n) = ((2 ^ n : Nat) : Int) by push_cast; rfl]
  exact IntWalk.wrap64_in _ (by omega)
/-! The table while it grows. -/
section
variable (F ln : List Int) (kerf : Int)
def tabL (N S : Nat) : List Sta := dpL F ln kerf (S - 1) ++ List.replicate (N - S) ⟨0, 0, 0⟩
theorem tabL_len {N S : Nat} (h1 : 1 ≤ S) (h2 : S ≤ N) : (tabL F ln kerf N S).length = N := by unfold tabL; rw [List.length_append, dpL_len, List.length_replicate]; omega
theorem tabL_one {N : Nat} (h : 1 ≤ N) : tabL F ln kerf N 1 = List.replicate N ⟨0, 0, 0⟩ := by
  obtain ⟨m, rfl⟩ : ∃ m, N = m + 1 := ⟨N - 1, by omega⟩
  rw [List.replicate_succ]; rfl
theorem tabL_all {N : Nat} : tabL F ln kerf N N = dpL F ln kerf (N - 1) := by unfold tabL; simp
theorem tabL_next {N S : Nat} (h1 : 1 ≤ S) (h2 : S < N) : (tabL F ln kerf N S).set S (bestI F ln kerf (dpL F ln kerf (S - 1)) S ln.length) = tabL F ln kerf N (S + 1) := by
  obtain ⟨k, rfl⟩ : ∃ k, S = k + 1 := ⟨S - 1, by omega⟩
  obtain ⟨m, rfl⟩ : ∃ m, N = k + 1 + (m + 1) := ⟨N - (k + 2), by omega⟩
  unfold tabL
  simp only [Nat.add_sub_cancel]
  rw [show k + 1 + (m + 1) - (k + 1) = m + 1 by omega, show k + 1 + (m + 1) - (k + 1 + 1) = m by omega, List.replicate_succ, dpL, List.set_append_right _ _ (by rw [dpL_len]; exact Nat.le_refl _), dpL_len, Nat.sub_self, List.set_cons_zero, List.append_assoc, List.singleton_append]
theorem tabL_get {N S j : Nat} (h1 : 1 ≤ S) (hj : j < S) (b : Sta) : ((tabL F ln kerf N S).set S b).getD j (nev F) = (dpL F ln kerf (S - 1)).getD j (nev F) := by
  rw [List.getD_eq_getElem?_getD, List.getElem?_set_ne (by omega), List.getD_eq_getElem?_getD]
  unfold tabL
  rw [List.getElem?_append_left (by rw [dpL_len]; omega)]
theorem dpL_at {N S : Nat} (h : S < N) : (dpL F ln kerf (N - 1)).getD S (nev F) = dp F ln kerf S := dpL_get F ln kerf (by omega)
end
/-- What a step does to the best of a set. -/
def roundS (F ln : List Int) (kerf : Int) (p b : Sta) (i : Nat) : Sta := if p = nev F then b else match stepS F ln kerf p i with | none => b | some u => if ltS u b = true then u else b
theorem bestI_clear {F ln : List Int} {kerf : Int} {L : List Sta} {S i : Nat} (h : S.testBit i = false) : bestI F ln kerf L S (i + 1) = bestI F ln kerf L S i := by rw [bestI, if_neg (by simp [h])]
theorem bestI_set {F ln : List Int} {kerf : Int} {L : List Sta} {S i : Nat} (h : S.testBit i = true) : bestI F ln kerf L S (i + 1) = roundS F ln kerf (L.getD (S ^^^ 2 ^ i) (nev F)) (bestI F ln kerf L S i) i := by rw [bestI, if_pos h]; rfl
/-! What the states hold. -/
structure StaOk (B : Nat) (s : Sta) : Prop where
  bars : s.bars ≤ B + 1
  used : 0 ≤ s.used ∧ s.used ≤ 1000000
  last : s.last ≤ 100
theorem bestI_ok {F ln : List Int} {kerf : Int} {L : List Sta} {S : Nat} (hF : ∀ x ∈ F, 0 ≤ x ∧ x ≤ 600000) (hln : ∀ x ∈ ln, 0 ≤ x ∧ x ≤ 600000) (hk : 0 ≤ kerf ∧ kerf ≤ 10000) (hL : ∀ s ∈ L, StaOk F.length s) : ∀ i, i ≤ 100 → StaOk F.length (bestI F ln kerf L S i)
  | 0, _ => ⟨by simp [bestI, nev], by simp [bestI, nev], by simp [bestI, nev]⟩
  | i + 1, hi => by
    have ih := bestI_ok hF hln hk hL (S := S) i (by omega)
    by_cases h : S.testBit i = true
    · rw [bestI_set h]
      unfold roundS
      split
      · exact ih
      · rename_i hne
        have hp : StaOk F.length (L.getD (S ^^^ 2 ^ i) (nev F)) := by
          rw [List.getD_eq_getElem?_getD]
          cases hg : L[S ^^^ 2 ^ i]? with
          | none => exact ⟨by simp [nev], by simp [nev], by simp [nev]⟩
          | some s => exact hL s (List.mem_of_getElem? hg)
        generalize L.getD (S ^^^ 2 ^ i) (nev F) = p at *
        split
        · exact ih
        · rename_i u hu
          split
          · obtain ⟨p1, p2, p3⟩ := hp
            have hm : ∀ l : List Int, (∀ x ∈ l, 0 ≤ x ∧ x ≤ 600000) → ∀ j, 0 ≤ l.getD j 0 ∧ l.getD j 0 ≤ 600000 := fun l hl j => by
              rw [List.getD_eq_getElem?_getD]
              cases hg : l[j]? with
              | none => simp
              | some x => exact hl x (List.mem_of_getElem? hg)
            have h1 := hm ln hln i
            have h2 := hm F hF (p.bars - 1)
            unfold stepS at hu
            split at hu
            · split at hu
              · cases hu
              · injection hu with hu; subst hu; exact ⟨by simp only; omega, by simp only; omega, by simp only; omega⟩
            · injection hu with hu; subst hu; exact ⟨by simp only; omega, by simp only; omega, by simp only; omega⟩
          · exact ih
    · rw [bestI_clear (by simpa using h)]; exact ih
theorem dpL_ok {F ln : List Int} {kerf : Int} (hF : ∀ x ∈ F, 0 ≤ x ∧ x ≤ 600000) (hln : ∀ x ∈ ln, 0 ≤ x ∧ x ≤ 600000) (hk : 0 ≤ kerf ∧ kerf ≤ 10000) (hl : ln.length ≤ 100) : ∀ k, ∀ s ∈ dpL F ln kerf k, StaOk F.length s
  | 0, s, hs => by
    rw [dpL, List.mem_singleton] at hs
    subst hs
    exact ⟨by simp, by simp, by simp⟩
  | k + 1, s, hs => by
    rw [dpL, List.mem_append, List.mem_singleton] at hs
    rcases hs with hs | rfl
    · exact dpL_ok hF hln hk hl k s hs
    · exact bestI_ok hF hln hk (fun s h => dpL_ok hF hln hk hl k s h) _ hl
/-! Rows of numbers, each in its cell. -/
section
variable {w w' : World} {base : Nat} {L : List Slot} {V : Nat → Value} {St : Addr → Value → Prop}
/-- The row of a slot is put anew. -/
theorem Owned.renew (h : Owned w base L V St) {i : Nat} {s : Slot} {v' : Value} {ys : List Value} {m : Nat} (hi : L[i]? = some s)
    (ho : w'.ownsRow base s.e s.k v' m ys) (hg : w.grownBy w' (V i).ownBlock) (hv : v'.ownBlock = (V i).ownBlock ∨ v'.ownBlock = some w.heap.size) :
    Owned w' base (L.set i { s with xs := ys }) (upd V i v') St ∧ ∀ (j : Nat) (t : Slot) (a : Addr), L[j]? = some t → t.a = some a → w'.cell? a = w.cell? a := by
  have hget := fun {j : Nat} {t : Slot} => set_get (s' := { s with xs := ys }) hi rfl (j := j) (t := t)
  have hnew : ∀ {j : Nat} {t0 : Slot} {g : Nat}, L[j]? = some t0 → (upd V i v' j).ownBlock = some g → (V j).ownBlock = some g ∨ (j = i ∧ g = w.heap.size) := by
    intro j t0 g hj hgj
    by_cases he : j = i
    · subst he
      rw [upd_same] at hgj
      rcases hv with hv | hv
      · rw [hv] at hgj; exact .inl hgj
      · rw [hv] at hgj; injection hgj with hgj; exact .inr ⟨rfl, hgj.symm⟩
    · rw [upd_ne _ _ he] at hgj; exact .inl hgj
  have hcell : ∀ {a : Addr}, (w.cell? a).isSome = true → (V i).ownBlock ≠ some a.block → w'.cell? a = w.cell? a ∧ w'.frozen? a = w.frozen? a := by
    intro a ha hne
    obtain ⟨u, hu⟩ := Option.isSome_iff_exists.1 ha
    have := hg.block a.block (block_lt_of_cell hu) (fun e => hne e.symm)
    exact ⟨World.cell?_of_block this, World.frozen?_of_block this⟩
  have hb := h.bound
  refine ⟨⟨fun j t hj => ?_, fun j t a hj hta => ?_, fun j k t u a hj hk hjk hta => ?_, fun j k t u g hj hk hjk hgj => ?_, fun j k t u a hj hk hua => ?_, fun a v hst => ?_⟩, fun j t a hj hta => ?_⟩
  · obtain ⟨t0, h0, _, h2, h3⟩ := hget hj
    by_cases he : j = i
    · obtain ⟨rfl, rfl⟩ := h2 he
      subst he
      rw [upd_same]
      exact ⟨m, ho⟩
    · rw [upd_ne _ _ he]
      obtain rfl := h3 he
      obtain ⟨n, hn⟩ := h.own j t h0
      refine ⟨n, hn.kept hg ?_⟩
      cases hgj : (V j).ownBlock with
      | none => exact .inl rfl
      | some g => exact .inr fun e => h.rows j i t s g h0 hi he hgj e.symm
  · obtain ⟨t0, h0, h1, _, _⟩ := hget hj
    rw [h1] at hta
    obtain ⟨k1, k2, k3, k4⟩ := h.slot j t0 a h0 hta
    obtain ⟨q1, q2⟩ := hcell k4 (h.off i j s t0 a hi h0 hta)
    exact ⟨k1, k2, by rw [q2]; exact k3, by rw [q1]; exact k4⟩
  · obtain ⟨t0, h0, h1, _, _⟩ := hget hj
    obtain ⟨u0, g0, g1, _, _⟩ := hget hk
    rw [h1] at hta
    rw [g1]
    exact h.slots j k t0 u0 a h0 g0 hjk hta
  · obtain ⟨t0, h0, h1, _, _⟩ := hget hj
    obtain ⟨u0, g0, g1, _, _⟩ := hget hk
    intro hgk
    rcases hnew h0 hgj with a1 | ⟨a1, a2⟩
    · rcases hnew g0 hgk with b1 | ⟨b1, b2⟩
      · exact h.rows j k t0 u0 g h0 g0 hjk a1 b1
      · have := (hb j t0 h0).2 g a1
        omega
    · rcases hnew g0 hgk with b1 | ⟨b1, b2⟩
      · have := (hb k u0 g0).2 g b1
        omega
      · exact hjk (a1.trans b1.symm)
  · obtain ⟨t0, h0, h1, _, _⟩ := hget hj
    obtain ⟨u0, g0, g1, _, _⟩ := hget hk
    rw [g1] at hua
    intro hgj
    rcases hnew h0 hgj with a1 | ⟨a1, a2⟩
    · exact h.off j k t0 u0 a h0 g0 hua a1
    · have := (hb k u0 g0).1 a hua
      omega
  · obtain ⟨h1, h2, h3⟩ := h.st a v hst
    refine ⟨h1, by rw [(hcell (by rw [h2]; rfl) (h3 i s hi).2).1]; exact h2, fun j t hj => ?_⟩
    obtain ⟨t0, h0, h4, _, _⟩ := hget hj
    refine ⟨by rw [h4]; exact (h3 j t0 h0).1, fun hgj => ?_⟩
    rcases hnew h0 hgj with a1 | ⟨a1, a2⟩
    · exact (h3 j t0 h0).2 a1
    · have := block_lt_of_cell h2
      omega
  · exact (hcell (h.slot j t a hj hta).2.2.2 (h.off i j s t a hi hj hta)).1
/-- The row in a slot's cell is put in another order. -/
theorem Desk.renew (h : Desk w base L St) {i : Nat} {s : Slot} {a : Addr} {v : Value} {ys : List Value} {m : Nat} (hi : L[i]? = some s) (ha : s.a = some a) (hv : w.cell? a = some v) (ho : w'.ownsRow base s.e s.k v m ys) (hg : w.grownBy w' v.ownBlock) :
    Desk w' base (L.set i { s with xs := ys }) St := by
  obtain ⟨V, g1, g2⟩ := h.ex
  have hvi := g2 i s a hi ha
  rw [hv] at hvi
  injection hvi with hvi
  subst hvi
  obtain ⟨q1, q2⟩ := g1.renew hi ho hg (.inl rfl)
  refine ⟨V, ?_, fun j t b hj hb => ?_⟩
  · have e : upd V i (V i) = V := by
      funext j
      by_cases he : j = i
      · subst he; rw [upd_same]
      · rw [upd_ne _ _ he]
    rw [e] at q1
    exact q1
  · obtain ⟨t0, h0, h1, _, _⟩ := set_get (s' := { s with xs := ys }) hi rfl hj
    rw [h1] at hb
    rw [q2 j t0 b h0 hb]
    exact g2 j t0 b h0 hb
end
abbrev slotN (a : Addr) (xs : List Nat) : Slot := ⟨some a, 3, 1, (xs.map fun i : Nat => (i : Int)).map (Value.int .i64)⟩
def slotsN (g : Nat) : Nat → List (List Nat) → List Slot
  | _, [] => []
  | j, x :: r => slotN ⟨g, j, none⟩ x :: slotsN g (j + 1) r
theorem slotsN_get {g : Nat} : ∀ {rows : List (List Nat)} {j i : Nat} {x : List Nat}, rows[i]? = some x → (slotsN g j rows)[i]? = some (slotN ⟨g, j + i, none⟩ x)
  | [], _, _, _, h => by simp at h
  | y :: r, j, 0, x, h => by simp only [List.getElem?_cons_zero, Option.some.injEq] at h; subst h; rfl
  | y :: r, j, i + 1, x, h => by
    simp only [List.getElem?_cons_succ] at h
    rw [slotsN, List.getElem?_cons_succ, slotsN_get h]
    rw [show j + 1 + i = j + (i + 1) by omega]
theorem slotsN_of {g : Nat} : ∀ {rows : List (List Nat)} {j i : Nat} {s : Slot}, (slotsN g j rows)[i]? = some s → ∃ x, rows[i]? = some x ∧ s = slotN ⟨g, j + i, none⟩ x
  | [], _, _, _, h => by simp [slotsN] at h
  | y :: r, j, 0, s, h => by
    simp only [slotsN, List.getElem?_cons_zero, Option.some.injEq] at h
    exact ⟨y, rfl, h.symm⟩
  | y :: r, j, i + 1, s, h => by
    simp only [slotsN, List.getElem?_cons_succ] at h
    obtain ⟨x, h1, h2⟩ := slotsN_of h
    exact ⟨x, h1, by rw [h2, show j + 1 + i = j + (i + 1) by omega]⟩
theorem slotsN_set {g : Nat} : ∀ {rows : List (List Nat)} {j i : Nat} {x : List Nat}, (slotsN g j rows).set i (slotN ⟨g, j + i, none⟩ x) = slotsN g j (rows.set i x)
  | [], _, _, _ => rfl
  | y :: r, j, 0, x => rfl
  | y :: r, j, i + 1, x => by
    rw [slotsN, List.set_cons_succ, List.set_cons_succ, slotsN, show j + (i + 1) = j + 1 + i by omega, slotsN_set]
/-- New rows, all empty. -/
theorem desk_none {w : World} {base g n : Nat} (hb : base ≤ g) (hc : ∀ i, i < n → w.cell? ⟨g, i, none⟩ = some (.slice none 0 0) ∧ w.frozen? ⟨g, i, none⟩ = false) : Desk w base (slotsN g 0 (List.replicate n [])) (fun _ _ => False) := by
  have hx : ∀ {i : Nat} {s : Slot}, (slotsN g 0 (List.replicate n []))[i]? = some s → i < n ∧ s = slotN ⟨g, i, none⟩ [] := fun {i s} hi => by
    obtain ⟨x, h1, h2⟩ := slotsN_of hi
    rw [List.getElem?_replicate] at h1
    split at h1
    · rename_i hlt
      injection h1 with h1
      subst h1
      exact ⟨hlt, by rw [h2, Nat.zero_add]⟩
    · cases h1
  refine ⟨fun _ => .slice none 0 0, ⟨fun i s hi => ?_, fun i s a hi ha => ?_, fun i j s t a hi hj hij ha => ?_, fun i j s t q hi hj hij hg => (by cases hg), fun i j s t a hi hj ha e => (by cases e), fun a u hu => hu.elim⟩, fun i s a hi ha => ?_⟩
  · obtain ⟨_, rfl⟩ := hx hi
    exact ⟨0, World.ownsRow_nil _ _ _ _⟩
  · obtain ⟨h1, rfl⟩ := hx hi
    injection ha with ha
    subst ha
    exact ⟨rfl, hb, (hc i h1).2, by rw [(hc i h1).1]; rfl⟩
  · obtain ⟨h1, rfl⟩ := hx hi
    obtain ⟨h2, rfl⟩ := hx hj
    injection ha with ha
    subst ha
    intro e
    injection e with e
    injection e with _ e
    exact hij e.symm
  · obtain ⟨h1, rfl⟩ := hx hi
    injection ha with ha
    subst ha
    exact (hc i h1).1
theorem desk_rows {w : World} {base g : Nat} {rows : List (List Nat)} {St : Addr → Value → Prop} (h : Desk w base (slotsN g 0 rows) St) (hb : ∀ r ∈ rows, ∀ x ∈ r, x ≤ 1000000) : Listss.V w (some ⟨g, 0, none⟩) (rows.map fun r => r.map fun i : Nat => (i : Int)) := by
  intro hne
  refine ⟨g, 0, rfl, fun i x hi => ?_⟩
  rw [List.getElem?_map, Option.map_eq_some_iff] at hi
  obtain ⟨r, hr, rfl⟩ := hi
  have hs := slotsN_get (g := g) (j := 0) hr
  obtain ⟨v, n, h1, h2, h3, h4⟩ := h.row hs rfl
  rw [Nat.zero_add] at h1
  have hn : (r.map fun i : Nat => (i : Int)).length = n := by have := h3.1; simpa using this
  subst hn
  rw [Nat.mul_one, Nat.zero_add]
  rcases h3.2 with ⟨rfl, h0⟩ | ⟨g', cap, cur, rfl, q1, q2, q3, q4, -⟩
  · refine ⟨none, 0, by rw [h1, h0], fun hne' => ?_, by omega, by unfold maxLen; omega⟩
    exact absurd (List.length_eq_zero_iff.1 h0) hne'
  · refine ⟨some ⟨g', 0, none⟩, cap, h1, Intss.V.of (own_intsV1 h3) fun x hx => ?_, q3, q4⟩
    obtain ⟨y, hy, rfl⟩ := List.mem_map.1 hx
    have := hb r (List.mem_of_getElem? hr) y hy
    omega
end Go.Proofs.Ytoelfalmmaddlaa
