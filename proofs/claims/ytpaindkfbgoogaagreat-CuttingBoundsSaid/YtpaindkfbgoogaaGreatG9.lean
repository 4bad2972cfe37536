/- Whether a bench takes a blank; whether cuts hold a blank; comparing numbers. -/
import Derived.Test.YtpaindkfbgoogaaGreatG8
set_option linter.unusedVariables false
set_option linter.unusedSimpArgs false
namespace Go.Proofs.YtpaindkfbgoogaaGreat
open Go Go.RowKit

theorem idxO_bool {α : Type} (o : Option (Nat × α)) : decide (0 ≤ idxO o) = o.isSome := by
  cases o with
  | none => rfl
  | some x => simp [idxO]
set_option maxHeartbeats 1000000 in
theorem hasBench_any (base : Nat) (X : Nat → Nat) (AD : Nat → Option Addr) (CD : Nat → Nat) (t : Trim) (stock : List Board) (blanks : List Blank) (S : List BS) (St : Addr → Value → Prop) (ab : Option Addr) (cb gi gj gb cp number : Nat) (W0 w : World) (hW0 : W0.heap.size = base) (h0 : Below base W0 w)
    (hD : Desk w base (deskL (AC X) (AR X) 0 S) St) (hB : Benches W0 X AD CD t stock gb St) (hJ : JobOk stock blanks t) (hS : S.length = stock.length) (hG : GoodAll 80000 S) (hn : number < blanks.length)
    (hi : St ⟨gi, 0, none⟩ (.int .i64 number)) (hj : St ⟨gj, 1, none⟩ (.slice ab blanks.length cb)) (hb : Blanks.V W0 ab blanks) :
    Calls Tryz.prog 78 #[.slice (some ⟨gb, 0, none⟩) stock.length cp, .func (.func 79) #[] #[.pointer (some ⟨gi, 0, none⟩), .pointer (some ⟨gj, 0, none⟩)]] w
      fun e w' => e = .returned (.bool (scan (putF t.kerf stock (bl blanks number) number S) stock.length 0).isSome) ∧ Desk w' base (deskL (AC X) (AR X) 0 (setO S (scan (putF t.kerf stock (bl blanks number) number S) stock.length 0))) St ∧ Below base w w' := by
  have HC := Lib.hid (idxBench_any base X AD CD t stock blanks S St ab cb gi gj gb cp number W0 w hW0 h0 hD hB hJ hS hG hn hi hj hb)
  generalize scan (putF t.kerf stock (bl blanks number) number S) stock.length 0 = o at *
  have HO := Lib.hid (idxO_bool o)
  clear hD hB hJ hG
  generalize idxO o = q at *
  go_enter Tryz.func78, Tryz.ntmps78
  go_wp2_with (go_at_call 107; refine HC.out.mono ?_; rintro e w1 ⟨rfl, hD1, hb1⟩; have HD1 := Lib.hid hD1; have HB1 := Lib.hid hb1; clear hD1 hb1)
  go_ret
  exact ⟨ret_bool (by rw [← HO.out]), HD1.out, HB1.out⟩

/-- A leaf that is a piece. -/
def isPiece (x : Cut) : Bool := decide (x.low = 0) && decide (0 ≤ x.blank)
set_option maxHeartbeats 1000000 in
theorem greedy3_any (x : Cut) (w : World) : Calls Tryz.prog 82 #[.agg #[.bool x.across, .int .i64 x.at_, .int .i64 x.low, .int .i64 x.high, .int .i64 x.blank]] w fun e w' => e = .returned (.bool (isPiece x)) ∧ Below w.heap.size w w' := by
  by_cases h1 : x.low = 0
  · have HL := Lib.hid (show decide (x.low = 0) = true by simp [h1])
    have HP := Lib.hid (show isPiece x = decide (0 ≤ x.blank) by simp [isPiece, h1])
    clear h1
    go_enter Tryz.func82, Tryz.ntmps82
    go_wp2_with (go_at_call 83; refine (leaf_any x _).mono ?_; rw [HL.out]; rintro e w1 ⟨rfl, hb⟩; obtain ⟨hc, hf⟩ := bcell hb; have hz := hb.size; simp at hz)
    go_ret
    exact ⟨ret_bool (by rw [HP.out]), ((Below.refl _ _).alloc (Nat.le_refl _) _).trans (hb.mono (by simp))⟩
  · have HL := Lib.hid (show decide (x.low = 0) = false by simp [h1])
    have HP := Lib.hid (show isPiece x = false by simp [isPiece, h1])
    clear h1
    go_enter Tryz.func82, Tryz.ntmps82
    go_wp2_with (go_at_call 83; refine (leaf_any x _).mono ?_; rw [HL.out]; rintro e w1 ⟨rfl, hb⟩; obtain ⟨hc, hf⟩ := bcell hb; have hz := hb.size; simp at hz)
    go_ret
    exact ⟨ret_bool HP.out.symm, ((Below.refl _ _).alloc (Nat.le_refl _) _).trans (hb.mono (by simp))⟩
set_option maxHeartbeats 1000000 in
theorem idxCut_any (a : Option Addr) (l : List Cut) (c : Nat) (w : World) (hv : Cuts.V w a l) (hl : l.length ≤ 9223372036854775807) :
    Calls Tryz.prog 110 #[.slice a l.length c, .func (.func 82) #[] #[]] w
      fun e w' => e = .returned (.int .i64 (idxOf isPiece l)) ∧ Below w.heap.size w w' := by
  go_enter Tryz.func110, Tryz.ntmps110
  go_wp2
  go_loopw [8] (fun i wr => ∃ k : Nat, k ≤ l.length ∧ i = .int .i64 k ∧ Hid (∀ j (hj : j < l.length), j < k → isPiece l[j] = false) ∧ Below w.heap.size w wr) (fun i _ => l.length - (intOf i).toNat)
  case atStart => exact ⟨0, Nat.zero_le _, rfl, Lib.hid (fun j _ h => by omega), Below.refl _ _⟩
  case round =>
    obtain ⟨k, hk, rfl, HK, hbw⟩ := hrel
    have hsz := hbw.size
    by_cases hlt : k < l.length
    · obtain ⟨b, off, rfl, hat⟩ := (hv.keep hbw).at_ hlt
      obtain ⟨c0, c1, c2, c3, c4, -⟩ := hat
      have HH := Lib.hid (fun h => idxOf_hit (p := isPiece) hlt HK.out h)
      have HN := Lib.hid (fun h => none_step (p := isPiece) HK.out hlt h)
      generalize l[k] = d at *
      cases hq : isPiece d
      · go_wp2_with (go_at_call 82; refine (greedy3_any d _).mono ?_; rw [hq]; rintro e w1 ⟨rfl, hb⟩)
        go_round
        case rel => exact ⟨k + 1, by omega, by go_num, Lib.hid (HN.out hq), hbw.trans (hb.mono hsz)⟩
        case measure => simp [intOf]; omega
      · go_wp2_with (go_at_call 82; refine (greedy3_any d _).mono ?_; rw [hq]; rintro e w1 ⟨rfl, hb⟩)
        go_ret
        exact ⟨ret_int (HH.out hq).symm, hbw.trans (hb.mono hsz)⟩
    · have hm := Lib.hid (idxOf_miss (p := isPiece) (l := l) (fun j hj => HK.out j hj (by omega)))
      clear HK
      go_wp2
      go_ret
      exact ⟨ret_int hm.out.symm, hbw⟩
theorem hasCut_any (a : Option Addr) (l : List Cut) (c : Nat) (w : World) (hv : Cuts.V w a l) (hl : l.length ≤ 9223372036854775807) :
    Calls Tryz.prog 81 #[.slice a l.length c, .func (.func 82) #[] #[]] w
      fun e w' => e = .returned (.bool (l.any isPiece)) ∧ Below w.heap.size w w' := by
  have hi := Lib.hid (idxOf_bool isPiece l)
  go_enter Tryz.func81, Tryz.ntmps81
  go_wp2_with (go_at_call 110; refine (idxCut_any a l c _ hv hl).mono ?_; rintro e w1 ⟨rfl, hb⟩)
  go_ret
  exact ⟨ret_bool (by rw [← hi.out]), hb⟩

theorem isNaN_any (x : Int) (w : World) : Calls Tryz.prog 100 #[.int .i64 x] w fun e w' => e = .returned (.bool false) ∧ w = w' := by
  go_enter Tryz.func100, Tryz.ntmps100
  go_wp2
  go_ret
  exact ⟨ret_bool (by simp), rfl⟩
def cmpI (x y : Int) : Int := if x < y then -1 else if y < x then 1 else 0
theorem compare_any (x y : Int) (w : World) : Calls Tryz.prog 60 #[.int .i64 x, .int .i64 y] w fun e w' => e = .returned (.int .i64 (cmpI x y)) ∧ w = w' := by
  go_enter Tryz.func60, Tryz.ntmps60
  go_wp2_with (go_at_call 100; refine (isNaN_any _ _).mono ?_; rintro e w' ⟨rfl, rfl⟩)
  all_goals (go_ret; exact ⟨ret_int (by unfold cmpI; split <;> (try split) <;> omega), rfl⟩)
def orI (x y : Int) : Int := if x ≠ 0 then x else y
theorem or_any (x y : Int) (g o c : Nat) (w : World) (h0 : w.cell? ⟨g, o, none⟩ = some (.int .i64 x)) (h1 : w.cell? ⟨g, o + 1, none⟩ = some (.int .i64 y)) :
    Calls Tryz.prog 77 #[.slice (some ⟨g, o, none⟩) 2 c] w fun e w' => e = .returned (.int .i64 (orI x y)) ∧ w = w' := by
  go_enter Tryz.func77, Tryz.ntmps77
  go_wp2_with (first
    | (with_reducible refine rounds_step ?_)
    | (with_reducible refine wp_loop_rounds 3 ?_))
  all_goals (go_ret; exact ⟨ret_int (by unfold orI; simp_all), rfl⟩)
end Go.Proofs.YtpaindkfbgoogaaGreat
