/- Lists of species: what the reference CheckSpecies and the programs Find return. -/
import Derived.Test.YthhchnhidhgccaaChecks2
set_option linter.unusedVariables false
set_option linter.unusedSimpArgs false
namespace Go.Proofs.Ythhchnhidhgccaa
open Go Go.RowKit

theorem quiet_left {P : Program} {f : FuncId} {args : Array Value} {w : World} {n : Nat} {v : Value}
    (h : Calls P f args (w.drewN n) fun e w' => e = .returned v ∧ w.drewN n = w') : Calls P f args (w.drewN n) fun e w'' => e = .returned v ∧ ∃ m, w'' = w.drewN m :=
  h.mono fun _ _ ⟨he, hm⟩ => ⟨he, n, hm.symm⟩
theorem RowV.take {sz : Nat} {α : Type} {R : World → Nat → Nat → α → Prop} {w : World} {a : Option Addr} {l : List α} (h : RowV sz R w a l) (k : Nat) : RowV sz R w a (l.take k) := by
  intro hne
  obtain ⟨b, off, ha, hx⟩ := h (by rintro rfl; simp at hne)
  refine ⟨b, off, ha, fun j x hj => hx j x ?_⟩
  rw [List.getElem?_take] at hj
  split at hj
  · exact hj
  · cases hj
theorem below_drewN {B : Nat} {a w : World} (h : Below B a w) (n : Nat) : Below B a (w.drewN n) := ⟨h.os, h.tape, h.output, h.size, h.block⟩
theorem refFind_n (a : Option Addr) (l : List Species) (n c : Nat) (nm : ByteArray) (w : World) (hn : n = l.length) (hv : Speciess.V w a l) (hl : l.length ≤ 9223372036854775807) :
    Calls Try.prog 24 #[.slice a n c, .string nm] w fun e w' => e = .returned (.int .i64 (idxOf (nameIs nm) l)) ∧ w = w' := by
  subst hn; exact refFind_any a l c nm w hv hl
theorem idxOf_nonneg {α : Type} (p : α → Bool) (l : List α) : (0 ≤ idxOf p l) ↔ l.any p = true := by
  unfold idxOf
  cases h : l.findIdx? p with
  | none =>
    rw [List.findIdx?_eq_none_iff] at h
    simp only [List.any_eq_true]
    constructor
    · intro h'; omega
    · rintro ⟨x, hx, hp⟩; rw [h x hx] at hp; cases hp
  | some i =>
    rw [List.findIdx?_eq_some_iff_getElem] at h
    obtain ⟨hi, hp, -⟩ := h
    simp only [List.any_eq_true]
    exact ⟨fun _ => ⟨_, List.getElem_mem hi, hp⟩, fun _ => by omega⟩
theorem spGoR {l : List Species} {k : Nat} (hk : k < l.length) : (((l.map (·.name)).take k).any fun t => l[k].name.toList == t.toList) = decide (0 ≤ idxOf (nameIs l[k].name) (l.take k)) := by
  rw [Bool.eq_iff_iff, decide_eq_true_eq, idxOf_nonneg, ← List.map_take, List.any_map]
  simp only [List.any_eq_true, Function.comp, nameIs, beq_iff_eq]
  exact ⟨fun ⟨x, h, e⟩ => ⟨x, h, e.symm⟩, fun ⟨x, h, e⟩ => ⟨x, h, e.symm⟩⟩

set_option maxRecDepth 100000 in
set_option maxHeartbeats 1000000 in
theorem refCheckSpecies_any (a : Option Addr) (l : List Species) (c : Nat) (w : World) (hv : Speciess.V w a l) (hl : l.length ≤ 9223372036854775807) (hlc : l.length ≤ c) :
    Calls Try.prog 31 #[.slice a l.length c] w fun e w' => e = .returned (.int .i64 (checkSpecies l)) ∧ Below w.heap.size w w' := by
  by_cases hbig : 40 < l.length
  · go_enter Try.func31, Try.ntmps31
    go_wp2_with fail
    go_ret
    exact ⟨ret_int (by simp [checkSpecies, hbig]), Below.refl _ _⟩
  have HF := Lib.hid (show checkSpecies l = spGo ((l.map (·.name)).take 0) (l.drop 0) by simp [checkSpecies, hbig])
  go_enter Try.func31, Try.ntmps31
  go_wp2_with fail
  go_loopw [3] (fun i wr => ∃ k : Nat, k ≤ l.length ∧ i = .int .i64 k ∧ Hid (checkSpecies l = spGo ((l.map (·.name)).take k) (l.drop k)) ∧ Below w.heap.size w wr) (fun i _ => l.length - (intOf i).toNat)
  case atStart => exact ⟨0, Nat.zero_le _, rfl, HF, Below.refl _ _⟩
  case round =>
    clear HF
    obtain ⟨k, hk, rfl, HF, hbw⟩ := hrel
    by_cases hlt : k < l.length
    · have hv1 := hv.keep hbw
      obtain ⟨b, off, rfl, hat⟩ := hv1.at_ hlt
      obtain ⟨c0, c1, c2, c3, c4, c5, c6, hwf⟩ := hat
      have hns := hwf.1
      clear hwf
      have hsz := hbw.size
      go_wp2_with (first
        | (go_at_call 80; refine (speciesErr_any l[k] _ hns).mono ?_; rintro e w1 ⟨rfl, hb⟩; obtain ⟨hc, hf⟩ := bcell hb; have hz := hb.size; have hc0 := cell_keep hb c0))
      · go_ret
        exact ⟨ret_int (spGo_err hlt HF.out (by assumption)).symm, hbw.trans (hb.mono hsz)⟩
      · have hv2 := (hv1.keep hb).take k
        have hki : (k : Int) < (l.length : Int) := by omega
        have hkc : (k : Int) ≤ (c : Int) := by omega
        have hlen : k = (l.take k).length := by simp; omega
        have HL := Lib.hid hlen
        clear hlen
        go_quiet ((go_at_call 24; exact quiet_left (refFind_n _ (l.take k) _ _ _ _ HL.out hv2 (by simp; omega))))
        rcases Int.lt_or_le (idxOf (nameIs l[k].name) (l.take k)) 0 with hq | hq
        · have hany := Lib.hid ((spGoR hlt).trans (decide_eq_false (by omega)))
          go_wp2
          go_roundw
          case rel => exact ⟨k + 1, by omega, by go_num, Lib.hid (spGo_next hlt HF.out (by assumption) hany.out), below_drewN (hbw.trans (hb.mono hsz)) _⟩
          case measure => simp [intOf]; omega
        · have hany := Lib.hid ((spGoR hlt).trans (decide_eq_true hq))
          go_wp2
          go_ret
          exact ⟨ret_int (spGo_dup hlt HF.out (by assumption) hany.out).symm, below_drewN (hbw.trans (hb.mono hsz)) _⟩
    · have hm := Lib.hid (spGo_end (by omega) HF.out)
      clear HF
      go_wp2_with fail
      go_ret
      exact ⟨ret_int hm.out.symm, hbw⟩

theorem ret_ints {a b c d : Int} (h : a = c) (h' : b = d) : Ending.returned (.tuple #[.int .i64 a, .int .i64 b]) = .returned (.tuple #[.int .i64 c, .int .i64 d]) := by rw [h, h']
def findE (l : List Species) (nm : ByteArray) : Int := if checkSpecies l ≠ 0 then checkSpecies l else if idxOf (nameIs nm) l < 0 then 6 else 0
def findV (l : List Species) (nm : ByteArray) : Int := if findE l nm ≠ 0 then 0 else idxOf (nameIs nm) l
theorem timberFind_any (a : Option Addr) (l : List Species) (c : Nat) (nm : ByteArray) (w : World) (hv : Speciess.V w a l) (hl : l.length ≤ 9223372036854775807) :
    Calls Try.prog 30 #[.slice a l.length c, .string nm] w fun e w' => e = .returned (.tuple #[.int .i64 (findV l nm), .int .i64 (findE l nm)]) ∧ Below w.heap.size w w' := by
  by_cases h0 : checkSpecies l = 0
  · have h0' : (checkSpecies l != 0) = false := by simp [h0]
    have H0 := Lib.hid h0
    clear h0
    rcases Int.lt_or_le (idxOf (nameIs nm) l) 0 with hq | hq
    all_goals
      go_enter Try.func30, Try.ntmps30
      go_wp2_with (first
        | (go_at_call 32; refine (checkSpecies_any _ l _ _ hv hl).mono ?_; rintro e w1 ⟨rfl, hb⟩)
        | (go_at_call 74; refine (find_any _ l _ nm _ (hv.keep hb) hl).mono ?_; rintro e w2 ⟨rfl, hb2⟩))
      go_ret2
      have h0 := H0.out
      exact ⟨ret_ints (by simp [findV, findE, h0] <;> omega) (by simp [findE, h0] <;> omega), hb.trans (hb2.mono hb.size)⟩
  · have h0' : (checkSpecies l != 0) = true := by simp [h0]
    have H0 := Lib.hid h0
    clear h0
    go_enter Try.func30, Try.ntmps30
    go_wp2_with (go_at_call 32; refine (checkSpecies_any _ l _ _ hv hl).mono ?_; rintro e w1 ⟨rfl, hb⟩)
    go_ret2
    have h0 := H0.out
    exact ⟨ret_ints (by simp [findV, findE, h0]) (by simp [findE, h0]), hb⟩
end Go.Proofs.Ythhchnhidhgccaa
