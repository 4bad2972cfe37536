/- Rows of bools, appends at a desk: what other texts of chapter 8 want of those on veneers. -/
import Derived.Test.YtepiapgcpoifpaaGreatInts
import Derived.Deep.QuietTactic
import Derived.BigQuiet
import Derived.Test.YtepiapgcpoifpaaGreatW2
import Derived.Lib.Walk
import Derived.Test.YtepiapgcpoifpaaGreatL1
set_option linter.unusedVariables false
set_option linter.unusedSimpArgs false
namespace Go.Proofs.YtepiapgcpoifpaaGreat
open Go Go.ChangeShapes Go.WideShapes Go.ChangeAt Go.RowKit Go.Deep
theorem idxOf_bool' {α : Type} (p : α → Bool) (l : List α) : decide (0 ≤ idxOf p l) = l.any p := by
  unfold idxOf
  rw [Bool.eq_iff_iff, decide_eq_true_eq]
  cases h : l.findIdx? p with
  | none =>
    rw [List.findIdx?_eq_none_iff] at h
    simp only [List.any_eq_true]
    exact ⟨fun h' => by omega, fun ⟨x, hx, hp⟩ => by rw [h x hx] at hp; cases hp⟩
  | some i =>
    rw [List.findIdx?_eq_some_iff_getElem] at h
    obtain ⟨hi, hp, -⟩ := h
    simp only [List.any_eq_true]
    exact ⟨fun _ => ⟨_, List.getElem_mem hi, hp⟩, fun _ => by omega⟩
theorem ret_two {a b : Int} {q : Int × Int} (h : q = (a, b)) : Ending.returned (.tuple #[.int .i64 a, .int .i64 b]) = .returned (.tuple #[.int .i64 q.1, .int .i64 q.2]) := by rw [h]
theorem bool_info : (Tryz.prog.info? 4).map (fun i => (i.zero, i.size, i.bytes)) = some (some (.bool false), 1, 1) := by kernel_rfl
theorem frozen_keep {w w' : World} {b o : Nat} (hb : Below w.heap.size w w') (hz : b < w.heap.size) (h : w.frozen? ⟨b, o, none⟩ = false) : w'.frozen? ⟨b, o, none⟩ = false := by
  rw [(bcell hb).2 b o hz]; exact h
theorem flat_bools (l : List Bool) : (l.flatMap fun b => [Value.bool b]) = l.map Value.bool := by induction l <;> simp_all
theorem own_bools {w : World} {base e n : Nat} {v : Value} {l : List Bool} (h : w.ownsRow base e 1 v n (l.map Value.bool)) : ∃ a c, v = .slice a l.length c ∧ Bools.V w a l := by
  have hn : n = l.length := by have := h.1; simpa using this.symm
  subst hn
  obtain ⟨a, c, rfl, -, -⟩ := own_slice h
  have h' : w.ownsRow base e 1 (.slice a l.length c) l.length (l.flatMap fun b => [Value.bool b]) := by
    rw [flat_bools]; exact h
  exact ⟨a, c, rfl, own_rowV (fun _ => rfl) (by decide) (fun b o x _ hx => hx 0 _ rfl) h'⟩
/-- A row in a cell is appended to. -/
theorem Desk.append1 {w w1 : World} {base i m : Nat} {L : List Slot} {St : Addr → Value → Prop} {s : Slot} {a : Addr} {v v' : Value} {news : List Value} (h : Desk w base L St) (hi : L[i]? = some s) (ha : s.a = some a) (hv : w.cell? a = some v)
    (ho : w1.ownsRow base s.e s.k v' m (s.xs ++ news)) (hg : w.grownBy w1 v.ownBlock) (hv' : v'.ownBlock = v.ownBlock ∨ v'.ownBlock = some w.heap.size) :
    w1.cell? a = some v ∧ w1.frozen? a = false ∧ Desk (w1.setCell a v') base (L.set i { s with xs := s.xs ++ news }) St := by
  obtain ⟨V, g1, g2⟩ := h.ex
  have hvi := g2 i s a hi ha
  rw [hv] at hvi
  injection hvi with hvi
  subst hvi
  obtain ⟨q1, q2⟩ := g1.append hi ho hg hv'
  have hil : i < L.length := (List.getElem?_eq_some_iff.1 hi).1
  have hi' : (L.set i { s with xs := s.xs ++ news })[i]? = some { s with xs := s.xs ++ news } := by simp [hil]
  obtain ⟨k1, k2, k3⟩ := q1.store (a := a) hi' ha v'
  refine ⟨by rw [q2 i s a hi ha]; exact hv, (q1.slot i _ a hi' ha).2.2.1, upd V i v', k1, fun j t b hj hb => ?_⟩
  by_cases he : j = i
  · subst he
    rw [hi'] at hj
    injection hj with hj
    subst hj
    simp only at hb
    rw [ha] at hb
    injection hb with hb
    subst hb
    rw [upd_same]; exact k2
  · rw [k3 j t b hj he hb, upd_ne _ _ he]
    obtain ⟨t0, h0, h1, _, _⟩ := set_get (s' := { s with xs := s.xs ++ news }) hi rfl hj
    rw [h1] at hb
    rw [q2 j t0 b h0 hb]
    exact g2 j t0 b h0 hb
theorem eq_no {α : Type} {l m : List α} {k : Nat} (hk : k < l.length) (hm : k < m.length) (h : ¬ l[k] = m[k]) : ¬ l = m := by
  rintro rfl
  exact h rfl
theorem eq_yes {α : Type} {l m : List α} (hl : l.length = m.length) {k : Nat} (hk : l.length ≤ k) (h : ∀ j (hj : j < l.length) (hj' : j < m.length), j < k → l[j] = m[j]) : l = m :=
  List.ext_getElem hl fun j hj hj' => h j hj hj' (by omega)
theorem eq_step {α : Type} {l m : List α} {k : Nat} (hk : k < l.length) (hm : k < m.length) (h : ∀ j (hj : j < l.length) (hj' : j < m.length), j < k → l[j] = m[j]) (h1 : l[k] = m[k]) : ∀ j (hj : j < l.length) (hj' : j < m.length), j < k + 1 → l[j] = m[j] := by
  intro j hj hj' hlt
  rcases Nat.lt_succ_iff_lt_or_eq.1 hlt with h' | rfl
  · exact h j hj hj' h'
  · exact h1
set_option maxHeartbeats 2000000 in
theorem intsSame_is (a1 a2 : Option Addr) (l m : List Int) (n1 c1 n2 c2 : Nat) (w : World) {q : Bool} (hn1 : l.length = n1) (hn2 : m.length = n2) (hq : decide (l = m) = q) (hv1 : Intss.V w a1 l) (hv2 : Intss.V w a2 m) (hl : l.length ≤ 1000000) (hm : m.length ≤ 1000000) :
    Calls Tryz.prog 13 #[.slice a1 n1 c1, .slice a2 n2 c2] w fun e w' => e = .returned (.bool q) ∧ Below w.heap.size w w' := by
  subst hn1 hn2
  have HQ := Lib.hid hq
  clear hq
  by_cases hll : l.length = m.length
  · have hne : ((l.length : Int) == (m.length : Int)) = true := beq_t (by omega)
    have hne2 : ((l.length : Int) != (m.length : Int)) = false := by simp [hll]
    have HLL := Lib.hid hll
    clear hll
    go_enter Tryz.func13, Tryz.ntmps13
    go_wp2_with fail
    clear hne hne2
    go_loopw [5] (fun iv wr => ∃ k : Nat, k ≤ l.length ∧ iv = .int .i64 k ∧ Hid (∀ j (hj : j < l.length) (hj' : j < m.length), j < k → l[j] = m[j]) ∧ Below w.heap.size w wr) (fun iv _ => l.length - (intOf iv).toNat)
    case atStart => exact ⟨0, Nat.zero_le _, rfl, Lib.hid (fun j _ _ h => by omega), Below.refl _ _⟩
    case round =>
      obtain ⟨k, hk, rfl, HK, hbr⟩ := hrel
      by_cases hlt : k < l.length
      · have hlt2 : k < m.length := by have := HLL.out; omega
        obtain ⟨b, off, ha, c0, -⟩ := (hv1.keep hbr).at' hlt
        obtain ⟨b', off', ha', c1', -⟩ := (hv2.keep hbr).at' hlt2
        subst ha ha'
        have hg1 := block_lt_of_cell c0
        have hg2 := block_lt_of_cell c1'
        simp only at hg1 hg2
        have HN := Lib.hid (fun h => eq_no hlt hlt2 h)
        have HS := Lib.hid (fun h => eq_step hlt hlt2 HK.out h)
        have hki : (k : Int) < (l.length : Int) := by omega
        have hki2 : (k : Int) < (m.length : Int) := by omega
        clear HK
        generalize l[k] = x at *
        generalize m[k] = y at *
        by_cases hxy : x = y
        · have hR := Lib.hid (HS.out hxy)
          have h1 : (x != y) = false := by simpa using hxy
          have h2 : (x == y) = true := beq_t hxy
          clear hxy HN HS
          go_wp2_with fail
          go_quiet (fail)
          rename_i nq
          go_wp2_with fail
          go_roundw
          case rel => exact ⟨k + 1, by omega, by go_num, hR, below_drewN hbr nq⟩
          case measure => simp [intOf]; omega
        · have hR := Lib.hid (HN.out hxy)
          have h1 : (x != y) = true := by simpa using hxy
          have h2 : (x == y) = false := beq_f hxy
          clear hxy HN HS
          go_wp2_with fail
          go_quiet (fail)
          rename_i nq
          go_wp2_with fail
          go_ret
          exact ⟨ret_bool (by rw [← HQ.out, decide_eq_false hR.out]), below_drewN hbr nq⟩
      · have hE := Lib.hid (eq_yes HLL.out (by omega) HK.out)
        have hki : ¬ (k : Int) < (l.length : Int) := by omega
        clear HK
        go_wp2_with fail
        go_ret
        exact ⟨ret_bool (by rw [← HQ.out, decide_eq_true hE.out]), hbr⟩
  · have hne : ((l.length : Int) == (m.length : Int)) = false := beq_f (by omega)
    have hne2 : ((l.length : Int) != (m.length : Int)) = true := by rw [bne_iff_ne]; omega
    have hR := Lib.hid (show ¬ l = m by rintro rfl; exact hll rfl)
    clear hll
    go_enter Tryz.func13, Tryz.ntmps13
    go_wp2_with fail
    go_ret
    exact ⟨ret_bool (by rw [← HQ.out, decide_eq_false hR.out]), Below.refl _ _⟩
end Go.Proofs.YtepiapgcpoifpaaGreat
