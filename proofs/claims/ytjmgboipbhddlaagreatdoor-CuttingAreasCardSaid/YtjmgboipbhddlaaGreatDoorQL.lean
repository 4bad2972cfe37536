import Derived.Test.YtjmgboipbhddlaaGreatDoorCX
import Derived.Test.YtjmgboipbhddlaaGreatDoorInts
import Derived.Lib.AppendZerosOnto
import Derived.Lib.SliceRun
import Derived.Lib.Walk
import Derived.Test.YtjmgboipbhddlaaGreatDoorQN
import Derived.Deep.QuietTactic
import Derived.BigQuiet
set_option linter.unusedVariables false
set_option linter.unusedSimpArgs false
namespace Go.Proofs.YtjmgboipbhddlaaGreatDoor
open Go Go.RowKit

theorem baseAbs_nn (n : Nat) (w : World) (h : n ≤ 1000000000000) : Calls Tryz.prog 65 #[.int .i64 (n : Int)] w fun e w' => e = .returned (.int .i64 (n : Int)) ∧ w = w' := by
 go_enter Tryz.func65, Tryz.ntmps65
 go_wp2
 go_ret
 exact ⟨rfl, rfl⟩

set_option maxHeartbeats 1000000 in
theorem cgcd_any (n d : Nat) (w : World) (h1 : n ≤ 1000000000000) (h3 : d ≤ 1000000000000) :
    Calls Tryz.prog 115 #[.int .i64 (n : Int), .int .i64 (d : Int)] w fun e w' => e = .returned (.int .i64 ((Nat.gcd n d : Nat) : Int)) ∧ Below w.heap.size w w' := by
 go_enter Tryz.func115, Tryz.ntmps115
 go_wp2_with fail
 go_loopw [0, 1] (fun x y wr => ∃ a b : Nat, x = .int .i64 (a : Int) ∧ y = .int .i64 (b : Int) ∧ a ≤ 1000000000000 ∧ b ≤ 1000000000000 ∧ Hid (Nat.gcd n d = Nat.gcd a b) ∧ Below w.heap.size w wr) (fun _ y _ => (intOf y).toNat)
 case atStart => exact ⟨n, d, rfl, rfl, h1, h3, Lib.hid rfl, Below.refl _ _⟩
 case round =>
  obtain ⟨a, b, rfl, rfl, ha, hb, HG, hbw⟩ := hrel
  by_cases h0 : b = 0
  ·subst h0
   have HE := Lib.hid (show Nat.gcd n d = a by rw [HG.out, Nat.gcd_zero_right])
   clear HG
   go_wp2_with fail
   go_ret
   exact ⟨ret_int (by rw [HE.out]), hbw⟩
  ·have hpos : 1 ≤ b := by omega
   have hlt := Nat.mod_lt a (show b > 0 by omega)
   have HS := Lib.hid (show Nat.gcd n d = Nat.gcd b (a % b) by rw [HG.out, Nat.gcd_comm, Nat.gcd_rec, Nat.gcd_comm])
   have HR := Lib.hid (show ((a % b : Nat) : Int) = (a : Int) % (b : Int) by omega)
   clear HG
   go_wp2_with fail
   go_quiet (fail)
   go_wp2_with fail
   go_roundw
   case rel => exact ⟨b, a % b, rfl, by rw [HR.out], by omega, by omega, HS, below_drewN hbw _⟩
   case measure =>
    have := HR.out
    simp only [intOf]
    omega
def lowNum (n d : Nat) : Int := ((n / Nat.gcd n d : Nat) : Int)
def lowDen (n d : Nat) : Int := ((d / Nat.gcd n d : Nat) : Int)
theorem gcd_bds {n d : Nat} (h2 : 1 ≤ d) : 1 ≤ Nat.gcd n d ∧ Nat.gcd n d ≤ d := ⟨Nat.gcd_pos_of_pos_right _ h2, Nat.gcd_le_right _ h2⟩
theorem low_bds {n d : Nat} (h1 : n ≤ 1000000000000) (h3 : d ≤ 1000000000000) : (0 ≤ lowNum n d ∧ lowNum n d ≤ 1000000000000) ∧ (0 ≤ lowDen n d ∧ lowDen n d ≤ 1000000000000) := by
 have a := Nat.div_le_self n (Nat.gcd n d)
 have b := Nat.div_le_self d (Nat.gcd n d)
 unfold lowNum lowDen
 generalize n / Nat.gcd n d = p at *
 generalize d / Nat.gcd n d = q at *
 omega
set_option maxHeartbeats 1000000 in
theorem clowest_any (n d : Nat) (w : World) (h1 : n ≤ 1000000000000) (h2 : 1 ≤ d) (h3 : d ≤ 1000000000000) :
    Calls Tryz.prog 94 #[.int .i64 (n : Int), .int .i64 (d : Int)] w fun e w' => e = .returned (.agg #[.int .i64 (lowNum n d), .int .i64 (lowDen n d)]) ∧ Below w.heap.size w w' := by
 obtain ⟨g1, g2⟩ := gcd_bds (n := n) h2
 have e1 : (n : Int) / ((Nat.gcd n d : Nat) : Int) = lowNum n d := (Int.natCast_ediv _ _).symm
 have e2 : (d : Int) / ((Nat.gcd n d : Nat) : Int) = lowDen n d := (Int.natCast_ediv _ _).symm
 obtain ⟨b1, b2⟩ := low_bds h1 h3
 generalize lowNum n d = Q1 at *
 generalize lowDen n d = Q2 at *
 have HQ1 := Lib.hid e1
 have HQ2 := Lib.hid e2
 clear e1 e2
 go_enter Tryz.func94, Tryz.ntmps94
 go_wp2_with (go_at_call 115; refine (cgcd_any n d _ h1 h3).mono ?_; rintro e w1 ⟨rfl, hb⟩; have k2 : w1.cell? ⟨w.heap.size, 0, none⟩ = some (.int .i64 0) := (cell_keep hb (by simp [go_sem])); have k3 : w1.cell? ⟨w.heap.size, 1, none⟩ = some (.int .i64 0) := (cell_keep hb (by simp [go_sem])); have hz := hb.size; obtain ⟨hc, hf⟩ := bcell hb)
 generalize hG : Nat.gcd n d = G at *
 have HG := Lib.hid hG
 clear hG
 have hg0 : ¬ G = 0 := by omega
 have hg1 : ¬ ((G : Int) = 0) := by omega
 have hg2 : (1 : Int) ≤ (G : Int) := by omega
 have hw1 : IntKind.i64.wrap Q1 = Q1 := IntWalk.i64_in _ (by omega)
 have hw2 : IntKind.i64.wrap Q2 = Q2 := IntWalk.i64_in _ (by omega)
 have hw3 : (n : Int) / (G : Int) = Q1 := HQ1.out
 have hw4 : (d : Int) / (G : Int) = Q2 := HQ2.out
 have hz0 := block_lt_of_cell k2
 simp only at hz0
 go_region_held3 (fun w' => True) (trivial) (fail)
 all_goals
  go_wp2_with fail
  refine bodyPost_ret (v := .agg #[.int .i64 Q1, .int .i64 Q2]) (by simp [results, Tryz.results94, go_sem, k2, k3]) rfl ⟨rfl, ?_⟩
  exact ((((((Below.refl _ _).alloc (Nat.le_refl _) _).trans (hb.mono (by simp)))).setCell (by simp) _).setCell (by simp) _).drew

def wtN (k num den : Nat) : Nat := if 0 < k ∧ (k + 1) * num % den ≠ 0 then (k + 1) * num / den else num
def wtD (k num den : Nat) : Nat := if 0 < k ∧ (k + 1) * num % den ≠ 0 then k else den
theorem wt_bds {k num den : Nat} (hk : k ≤ 20) (h1 : 1 ≤ den) (h2 : den ≤ 1000000) (h3 : num ≤ den) : wtN k num den ≤ wtD k num den ∧ 1 ≤ wtD k num den ∧ wtD k num den ≤ 1000000 := by
 unfold wtN wtD
 split
 ·rename_i h
  have h4 : (k + 1) * num ≤ (k + 1) * den := Nat.mul_le_mul_left _ h3
  have h5 : (k + 1) * num / den ≤ k + 1 := Nat.div_le_of_le_mul (by rwa [Nat.mul_comm den])
  have h6 : (k + 1) * num / den ≠ k + 1 := by
   intro e
   have h7 := Nat.div_add_mod ((k + 1) * num) den
   rw [e, Nat.mul_comm den] at h7
   omega
  omega
 ·omega
def wNum (k num den : Nat) : Int := lowNum (wtN k num den) (wtD k num den)
def wDen (k num den : Nat) : Int := lowDen (wtN k num den) (wtD k num den)
set_option maxHeartbeats 1000000 in
theorem cweight_any (k num den : Nat) (w : World) (hk : k ≤ 20) (h1 : 1 ≤ den) (h2 : den ≤ 1000000) (h3 : num ≤ den) :
    Calls Tryz.prog 51 #[.int .i64 (k : Int), .int .i64 (num : Int), .int .i64 (den : Int)] w fun e w' => e = .returned (.agg #[.int .i64 (wNum k num den), .int .i64 (wDen k num den)]) ∧ Below w.heap.size w w' := by
 obtain ⟨q1, q2, q3⟩ := wt_bds hk h1 h2 h3
 have h4 : (k + 1) * num ≤ 21 * 1000000 := Nat.mul_le_mul (by omega) (by omega)
 obtain ⟨N, hN⟩ : ∃ N, N = (k + 1) * num := ⟨_, rfl⟩
 have hp : ((k : Int) + 1) * (num : Int) = (N : Int) := by rw [hN, Int.natCast_mul]; rfl
 rw [← hN] at h4
 have v0 : IntKind.i64.wrap ((k : Int) + 1) = (k : Int) + 1 := IntWalk.i64_in _ (by omega)
 have v1 : IntKind.i64.wrap (N : Int) = (N : Int) := IntWalk.i64_in _ (by omega)
 by_cases hc : 0 < k ∧ N % den ≠ 0
 ·obtain ⟨Q, hQ⟩ : ∃ Q, Q = N / den := ⟨_, rfl⟩
  have HN := Lib.hid (show wNum k num den = lowNum Q k ∧ wDen k num den = lowDen Q k by rw [hQ]; rw [hN] at hc ⊢; unfold wNum wDen wtN wtD; rw [if_pos hc, if_pos hc]; exact ⟨rfl, rfl⟩)
  have hq : Q ≤ 1000000000000 := by rw [hQ]; exact Nat.le_trans (Nat.div_le_self _ _) (by omega)
  have hk0 : 0 < (k : Int) := by omega
  have hr : ¬ ((N : Int) % (den : Int) = 0) := by have := hc.2; omega
  have hk1 : (k : Int) > 0 := hk0
  have hd : (N : Int) / (den : Int) = (Q : Int) := by rw [hQ]; exact (Int.natCast_ediv _ _).symm
  have v2 : IntKind.i64.wrap (Q : Int) = (Q : Int) := IntWalk.i64_in _ (by omega)
  have hkp := hc.1
  clear hN hc hQ
  go_enter Tryz.func51, Tryz.ntmps51
  go_wp2_with (go_at_call 94; refine (clowest_any Q k _ hq hkp (by omega)).mono ?_; rintro e w1 ⟨rfl, hb⟩; have k2 : w1.cell? ⟨w.heap.size, 0, none⟩ = some (.int .i64 0) := (cell_keep hb (by simp [go_sem])); have k3 : w1.cell? ⟨w.heap.size, 1, none⟩ = some (.int .i64 0) := (cell_keep hb (by simp [go_sem])); have hz := hb.size; obtain ⟨hc, hf⟩ := bcell hb)
  exact bodyPost_ret (v := .agg #[.int .i64 (wNum k num den), .int .i64 (wDen k num den)]) (by simp [results, Tryz.results51, go_sem, HN.out.1, HN.out.2, k2, k3]) rfl ⟨rfl, by repeat (first | exact ((Below.refl _ _).alloc (Nat.le_refl _) _).trans (hb.mono (by simp)) | (refine Below.setCell ?_ (by simp) _))⟩
 ·have HN := Lib.hid (show wNum k num den = lowNum num den ∧ wDen k num den = lowDen num den by rw [hN] at hc; unfold wNum wDen wtN wtD; rw [if_neg hc, if_neg hc]; exact ⟨rfl, rfl⟩)
  by_cases hk0 : 0 < k
  ·have hr : (N : Int) % (den : Int) = 0 := by
     have : N % den = 0 := by
      rcases Nat.eq_zero_or_pos (N % den) with h | h
      ·exact h
      ·exact absurd ⟨hk0, by omega⟩ hc
     omega
   have hk1 : (k : Int) > 0 := by omega
   have hk2 : 0 < (k : Int) := hk1
   clear hN hc
   go_enter Tryz.func51, Tryz.ntmps51
   go_wp2_with (go_at_call 94; refine (clowest_any num den _ (by omega) h1 (by omega)).mono ?_; rintro e w1 ⟨rfl, hb⟩; have k2 : w1.cell? ⟨w.heap.size, 0, none⟩ = some (.int .i64 0) := (cell_keep hb (by simp [go_sem])); have k3 : w1.cell? ⟨w.heap.size, 1, none⟩ = some (.int .i64 0) := (cell_keep hb (by simp [go_sem])); have hz := hb.size; obtain ⟨hc, hf⟩ := bcell hb)
   exact bodyPost_ret (v := .agg #[.int .i64 (wNum k num den), .int .i64 (wDen k num den)]) (by simp [results, Tryz.results51, go_sem, HN.out.1, HN.out.2, k2, k3]) rfl ⟨rfl, by repeat (first | exact ((Below.refl _ _).alloc (Nat.le_refl _) _).trans (hb.mono (by simp)) | (refine Below.setCell ?_ (by simp) _))⟩
  ·have hk1 : ¬ (k : Int) > 0 := by omega
   have hk2 : ¬ 0 < (k : Int) := hk1
   clear hN hc
   go_enter Tryz.func51, Tryz.ntmps51
   go_wp2_with (go_at_call 94; refine (clowest_any num den _ (by omega) h1 (by omega)).mono ?_; rintro e w1 ⟨rfl, hb⟩; have k2 : w1.cell? ⟨w.heap.size, 0, none⟩ = some (.int .i64 0) := (cell_keep hb (by simp [go_sem])); have k3 : w1.cell? ⟨w.heap.size, 1, none⟩ = some (.int .i64 0) := (cell_keep hb (by simp [go_sem])); have hz := hb.size; obtain ⟨hc, hf⟩ := bcell hb)
   exact bodyPost_ret (v := .agg #[.int .i64 (wNum k num den), .int .i64 (wDen k num den)]) (by simp [results, Tryz.results51, go_sem, HN.out.1, HN.out.2, k2, k3]) rfl ⟨rfl, by repeat (first | exact ((Below.refl _ _).alloc (Nat.le_refl _) _).trans (hb.mono (by simp)) | (refine Below.setCell ?_ (by simp) _))⟩
end Go.Proofs.YtjmgboipbhddlaaGreatDoor

set_option linter.unusedVariables false
set_option linter.unusedSimpArgs false
namespace Go.Proofs.YtjmgboipbhddlaaGreatDoor
open Go Go.RowKit

theorem beq_f {a b : Int} (h : ¬ a = b) : (a == b) = false := by simpa using h
theorem beq_t {a b : Int} (h : a = b) : (a == b) = true := by simpa using h
theorem withinB_in {n lo hi : Int} (h : lo ≤ n ∧ n ≤ hi) : withinB n lo hi = true := by unfold withinB; simp [h.1, h.2]
theorem withinB_out {n lo hi : Int} (h : ¬ (lo ≤ n ∧ n ≤ hi)) : withinB n lo hi = false := by
 unfold withinB
 rw [Bool.eq_false_iff]
 simp only [ne_eq, Bool.and_eq_true, decide_eq_true_eq]
 exact h
theorem cwithin_is (n lo hi : Int) (w : World) {q : Bool} (hq : withinB n lo hi = q) : Calls Tryz.prog 30 #[.int .i64 n, .int .i64 lo, .int .i64 hi] w fun e w' => e = .returned (.bool q) ∧ w = w' := by subst hq; exact cwithin_any n lo hi w
theorem baseWithin_is (n lo hi : Int) (w : World) {q : Bool} (hq : withinB n lo hi = q) : Calls Tryz.prog 16 #[.int .i64 n, .int .i64 lo, .int .i64 hi] w fun e w' => e = .returned (.bool q) ∧ w = w' := by subst hq; exact baseWithin_any n lo hi w
set_option maxRecDepth 100000 in
set_option maxHeartbeats 1000000 in
theorem weightP_ok (k num den : Nat) (w : World) (hk : k ≤ 20) (h1 : 1 ≤ den) (h2 : den ≤ 1000000) (h3 : num ≤ den) :
    Calls Tryz.prog 23 #[.int .i64 (k : Int), .int .i64 (num : Int), .int .i64 (den : Int)] w fun e w' => e = .returned (.tuple #[.agg #[.int .i64 (wNum k num den), .int .i64 (wDen k num den)], .int .i64 0]) ∧ Below w.heap.size w w' := by
 go_enter Tryz.func23, Tryz.ntmps23
 go_wp2_with (first
  | (go_at_call 30; refine (cwithin_is _ _ _ _ (withinB_in (by omega))).mono ?_; rintro e w' ⟨rfl, rfl⟩)
  | (go_at_call 51; refine (cweight_any k num den _ hk h1 h2 h3).mono ?_; rintro e w1 ⟨rfl, hb⟩; have k2 : w1.cell? ⟨w.heap.size, 0, none⟩ = some (.int .i64 0) := (cell_keep hb (by simp [go_sem])); have k3 : w1.cell? ⟨w.heap.size, 1, none⟩ = some (.int .i64 0) := (cell_keep hb (by simp [go_sem])); have hz := hb.size; obtain ⟨hc, hf⟩ := bcell hb))
 exact bodyPost_ret (v := .tuple #[.agg #[.int .i64 (wNum k num den), .int .i64 (wDen k num den)], .int .i64 0]) (by simp [results, Tryz.results23, go_sem, k2, k3]) rfl ⟨rfl, by repeat (first | exact ((Below.refl _ _).alloc (Nat.le_refl _) _).trans (hb.mono (by simp)) | (refine Below.setCell ?_ (by simp) _))⟩
end Go.Proofs.YtjmgboipbhddlaaGreatDoor

set_option linter.unusedVariables false
set_option linter.unusedSimpArgs false
namespace Go.Proofs.YtjmgboipbhddlaaGreatDoor
open Go Go.RowKit

section
variable {w : World}
theorem run_append_ints (base : Nat) (i : TypeInfo) (hi : Tryz.prog.info? 3 = some i) (hz : i.zero = some (.int .i64 0)) (h1 : i.size = 1) (h8 : i.bytes = 8) (ty : TypeId) (v : Value) (n : Nat) (xs : List Value) (hown : w.ownsRow base 3 1 v n xs)
    (a : Option Addr) (l : List Int) (c : Nat) (hv : IntsV w a l) (hn : n + l.length ≤ 1000000) (hb : base ≤ w.heap.size) :
    ∃ v' w', (Builtin.append_ #[73, 73] ty #[v, .slice a l.length c]).run Tryz.prog w = .ok v' w' ∧ w'.ownsRow base 3 1 v' (n + l.length) (xs ++ l.map (Value.int .i64)) ∧ w.grownBy w' v.ownBlock := by
 by_cases hl : l = []
 ·subst hl
  refine ⟨v, w, ?_, by simpa using hown, ⟨rfl, rfl, rfl, Nat.le_refl _, fun _ _ _ => rfl⟩⟩
  have hf : (Builtin.firstCells 1 0 (.slice a 0 c)).run Tryz.prog w = .ok #[] w := by
   cases a with
   | none => exact run_firstCells_none w 1 0 0 c
   | some a => exact run_firstCells_some w 1 0 a 0 c [] (by simp) (by simp)
  rcases hown.2 with ⟨rfl, rfl⟩ | ⟨g, cap, cur, rfl, _, _, hnc, _⟩
  ·simp [Builtin.append_, run_underlying Tryz.underlying73, sizeOf, typeInfo, hi, h1, Builtin.lenOf, hf]
  ·simp [Builtin.append_, run_underlying Tryz.underlying73, sizeOf, typeInfo, hi, h1, Builtin.lenOf, hf, hnc, storeCells]
 ·obtain ⟨b, off, rfl, hc⟩ := hv hl
  obtain ⟨v', w', h2, h3, h4, -⟩ := run_append_own (P := Tryz.prog) w base 73 ty 3 i (.int .i64 0) 1 8 Tryz.underlying73 hi hz h1 h8 rfl (by decide) v n xs hown ⟨b, off, none⟩ l.length c (l.map (Value.int .i64)) (by simp) (by
   intro j u hj
   rw [List.getElem?_map, Option.map_eq_some_iff] at hj
   obtain ⟨x, hx, rfl⟩ := hj
   rw [addr_add]; exact hc j x hx) (by
   intro u hu
   obtain ⟨x, _, rfl⟩ := List.mem_map.1 hu
   rfl) (by unfold maxLen; omega) (by omega) hb
  exact ⟨v', w', h2, h3, h4⟩
theorem wp_append_ints {o : Oper} {a : Act} {K : Act → World → Prop} {Q : Exit → Act → World → Prop} (s x : Operand) (ho : o.op = .call { callee := .builtin .append, args := #[s, x], argTypes := #[73, 73] })
    (base : Nat) (i : TypeInfo) (hi : Tryz.prog.info? 3 = some i) (hz : i.zero = some (.int .i64 0)) (h1 : i.size = 1) (h8 : i.bytes = 8) (v : Value) (n : Nat) (xs : List Value) (hs : a.eval s = v) (hown : w.ownsRow base 3 1 v n xs)
    (ad : Option Addr) (l : List Int) (c : Nat) (hx : a.eval x = .slice ad l.length c) (hv : IntsV w ad l) (hn : n + l.length ≤ 1000000) (hb : base ≤ w.heap.size)
    (h : ∀ v' w', w'.ownsRow base 3 1 v' (n + l.length) (xs ++ l.map (Value.int .i64)) → w.grownBy w' v.ownBlock → K (a.put o.dst v') w') : o.wp Tryz.prog a w K Q := by
 obtain ⟨v', w', hr, h2, h3⟩ := run_append_ints base i hi hz h1 h8 o.type v n xs hown ad l c hv hn hb
 unfold Oper.wp execOp
 simp only [ho, resolve, invoke, builtin, Sem.run_bind, Sem.run_pure, Result.andThen_ok, List.map_toArray, List.map_cons, List.map_nil, hs, hx, hr]
 exact h v' w' h2 h3
theorem wpList_append_ints {ops : Array Oper} {rest : List Oper} {o : Oper} {a : Act} {Q : Exit → Act → World → Prop} (hgd : o.guard = none) (s x : Operand) (ho : o.op = .call { callee := .builtin .append, args := #[s, x], argTypes := #[73, 73] })
    (base : Nat) (i : TypeInfo) (hi : Tryz.prog.info? 3 = some i) (hz : i.zero = some (.int .i64 0)) (h1 : i.size = 1) (h8 : i.bytes = 8) (v : Value) (n : Nat) (xs : List Value) (hs : a.eval s = v) (hown : w.ownsRow base 3 1 v n xs)
    (ad : Option Addr) (l : List Int) (c : Nat) (hx : a.eval x = .slice ad l.length c) (hv : IntsV w ad l) (hn : n + l.length ≤ 1000000) (hb : base ≤ w.heap.size)
    (h : ∀ v' w', w'.ownsRow base 3 1 v' (n + l.length) (xs ++ l.map (Value.int .i64)) → w.grownBy w' v.ownBlock → wpList Tryz.prog ops Q rest (a.put o.dst v') w') : wpList Tryz.prog ops Q (o :: rest) a w :=
 wpList_plain hgd fun _ hK => wp_append_ints s x ho base i hi hz h1 h8 v n xs hs hown ad l c hx hv hn hb fun v' w' h2 h3 => hK _ _ (h v' w' h2 h3)
end

theorem intsV_keep {w w' : World} {a : Option Addr} {l : List Int} (h : IntsV w a l) (hb : Below w.heap.size w w') : IntsV w' a l := by
 intro hne
 obtain ⟨b, off, ha, hx⟩ := h hne
 exact ⟨b, off, ha, fun k x hk => cell_keep hb (hx k x hk)⟩
def RowPost (w : World) (xs : List Int) (e : Ending) (w' : World) : Prop := ∃ v, e = .returned v ∧ w'.ownsRow w.heap.size 3 1 v xs.length (xs.map (Value.int .i64)) ∧ Below w.heap.size w w'
set_option maxRecDepth 100000 in
set_option maxHeartbeats 2000000 in
theorem grow_any (n : Nat) (w : World) (hn : n ≤ 1000000) : Calls Tryz.prog 116 #[.slice none 0 0, .int .i64 (n : Int)] w (RowPost w []) := by
 obtain ⟨i0, hi, hz0, hz1, hz2⟩ := info_parts int_info
 by_cases h0 : n = 0
 ·subst h0
  go_enter Tryz.func116, Tryz.ntmps116
  go_wp2_with fail
  go_ret
  exact ⟨_, rfl, World.ownsRow_nil _ _ _ _, Below.refl _ _⟩
 ·have hn1 : ¬ ((n : Int) < 0) := by omega
  have hn2 : (n : Int) > 0 := by omega
  have v0 : IntKind.i64.wrap (n : Int) = (n : Int) := IntWalk.i64_in _ (by omega)
  have hold : (Builtin.firstCells i0.size 0 (.slice none 0 0)).run Tryz.prog w.drew = .ok ([] : List Value).toArray w.drew := run_firstCells_none w.drew i0.size 0 0 0
  have hrz : ∀ ty, (Builtin.append_ #[73, 3] ty #[.slice none 0 0, .int .i64 (n : Int)]).run Tryz.prog w = .ok (.slice (some ⟨w.heap.size, 0, none⟩) n (grownCap w n 0 3)) (w.drew.alloc (.cells (#[] ++ Builtin.zeroCells (Value.int .i64 0).cells n ++ Builtin.zeroCells (Value.int .i64 0).cells (grownCap w n 0 3 - n)) 3)) := fun ty => by
   have h := Lib.run_append_grow_zeros w 73 3 ty 3 i0 (.int .i64 0) .i64 .i64 Tryz.underlying73 Tryz.underlying3 hi hz0 none 0 0 [] hold n (by omega) (by rw [hz1]; decide) (by omega) (by omega) (by rw [hz2]; omega) (by rw [Nat.zero_add]; exact growslice_fits (by omega) (by rw [hz2]; omega))
   rw [Nat.zero_add] at h
   exact h
  have hG := grownCap_ge w n 0 3
  have hG2 := grownCap_le_maxLen w n 0 3 (by unfold maxLen; omega)
  have HOW := Lib.hid (World.ownsRow_made (e := 3) (base := w.heap.size) (size := 1) w.drew (#[] ++ Builtin.zeroCells (Value.int .i64 0).cells n ++ Builtin.zeroCells (Value.int .i64 0).cells (grownCap w n 0 3 - n)) (grownCap w n 0 3) (Nat.le_refl _) hG2 (by simp [Builtin.zeroCells, Value.cells]; omega))
  have HBE := Lib.hid ((Below.refl w.heap.size w).drew.alloc (Nat.le_refl _) (.cells (#[] ++ Builtin.zeroCells (Value.int .i64 0).cells n ++ Builtin.zeroCells (Value.int .i64 0).cells (grownCap w n 0 3 - n)) 3))
  unfold maxLen at hG2
  generalize grownCap w n 0 3 = G at *
  generalize (#[] ++ Builtin.zeroCells (Value.int .i64 0).cells n ++ Builtin.zeroCells (Value.int .i64 0).cells (G - n)) = cs at *
  clear hold
  go_enter Tryz.func116, Tryz.ntmps116
  go_wp2_with (at_builtin; refine Lib.wpList_append_run _ rfl _ _ _ _ rfl _ _ rfl rfl _ _ (hrz _) ?_)
  all_goals (go_ret; exact ⟨_, rfl, HOW.out, HBE.out⟩)
set_option maxRecDepth 100000 in
set_option maxHeartbeats 2000000 in
theorem concat_any (g : Nat) (a1 a2 : Option Addr) (l1 l2 : List Int) (c1 c2 : Nat) (w : World) (h0 : w.cell? ⟨g, 0, none⟩ = some (.slice a1 l1.length c1)) (h1 : w.cell? ⟨g, 1, none⟩ = some (.slice a2 l2.length c2)) (hv1 : IntsV w a1 l1) (hv2 : IntsV w a2 l2) (hl1 : l1.length ≤ 100000) (hl2 : l2.length ≤ 100000) :
    Calls Tryz.prog 95 #[.slice (some ⟨g, 0, none⟩) 2 2] w (RowPost w (l1 ++ l2)) := by
 obtain ⟨i0, hi, hz0, hz1, hz2⟩ := info_parts int_info
 have n1 : ¬ ((l1.length : Int) < 0) := by omega
 have n2 : ¬ ((l1.length : Int) + (l2.length : Int) < 0) := by omega
 have v1 : IntKind.i64.wrap (l1.length : Int) = (l1.length : Int) := IntWalk.i64_in _ (by omega)
 have v2 : IntKind.i64.wrap ((l1.length : Int) + (l2.length : Int)) = (l1.length : Int) + (l2.length : Int) := IntWalk.i64_in _ (by omega)
 have HG := Lib.hid (show Calls Tryz.prog 116 #[.slice none 0 0, .int .i64 ((l1.length : Int) + (l2.length : Int))] w (RowPost w []) by
  have := grow_any (l1.length + l2.length) w (by omega)
  rwa [Int.natCast_add] at this)
 go_enter Tryz.func95, Tryz.ntmps95
 have H1 := Lib.hid h1
 have tok1 : True := trivial
 go_wp2_with (first
  | (go_at_call 116; refine HG.out.mono ?_; rintro e w1 ⟨v, rfl, ho, hb⟩; have HO1 := Lib.hid ho; have HB1 := Lib.hid hb; have k0 := cell_keep hb h0; have k1 := cell_keep hb h1; clear ho hb h0 h1)
  | (at_builtin; have _t := tok1; refine wpList_append_ints rfl _ _ rfl w.heap.size i0 hi hz0 hz1 hz2 _ _ _ rfl HO1.out a1 l1 c1 rfl (intsV_keep hv1 HB1.out) (by simp; omega) HB1.out.size ?_; intro v2 w2 ho2 hg2; have HO2 := Lib.hid ho2; have HB2 := Lib.hid (HB1.out.grown hg2 HB1.out.size (fun k hk => own_base HO1.out hk)); have k1' := cell_keep HB2.out H1.out; clear ho2 hg2 tok1 _t k0 k1)
  | (at_builtin; refine wpList_append_ints rfl _ _ rfl w.heap.size i0 hi hz0 hz1 hz2 _ _ _ rfl HO2.out a2 l2 c2 rfl (intsV_keep hv2 HB2.out) (by simp; omega) HB2.out.size ?_; intro v3 w3 ho3 hg3; have HO3 := Lib.hid ho3; have HB3 := Lib.hid (HB2.out.grown hg3 HB2.out.size (fun k hk => own_base HO2.out hk)); clear ho3 hg3)
  | (with_reducible refine rounds_step ?_)
  | (with_reducible refine wp_loop_rounds 3 ?_))
 go_ret
 refine ⟨_, rfl, ?_, HB3.out⟩
 have h := HO3.out
 rw [List.length_append, List.map_append]
 simpa using h
end Go.Proofs.YtjmgboipbhddlaaGreatDoor

set_option linter.unusedVariables false
set_option linter.unusedSimpArgs false
namespace Go.Proofs.YtjmgboipbhddlaaGreatDoor
open Go Go.RowKit Go.Sort Go.Lib

def barOk (n : Int) : Bool := withinB n 1 600000
def crossE (st ln : List Int) (kerf : Int) : Int := if 10 < st.length ∨ 10 < ln.length then 8 else if (st ++ ln).all barOk = false then 2 else if withinB kerf 0 10000 = false then 2 else 0
structure CB (W : World) (g : Nat) (a1 : Option Addr) (n1 c1 : Nat) (a2 : Option Addr) (n2 c2 : Nat) (kerf : Int) : Prop where
 s : W.cell? ⟨g, 0, none⟩ = some (.slice a1 n1 c1)
 l : W.cell? ⟨g, 1, none⟩ = some (.slice a2 n2 c2)
 k : W.cell? ⟨g, 2, none⟩ = some (.int .i64 kerf)
theorem CB.keep {W W' : World} {g : Nat} {a1 : Option Addr} {n1 c1 : Nat} {a2 : Option Addr} {n2 c2 : Nat} {kerf : Int} (h : CB W g a1 n1 c1 a2 n2 c2 kerf) (hb : Below W.heap.size W W') : CB W' g a1 n1 c1 a2 n2 c2 kerf := ⟨cell_keep hb h.s, cell_keep hb h.l, cell_keep hb h.k⟩
set_option maxRecDepth 100000 in
set_option maxHeartbeats 4000000 in
theorem checkCross_any (a1 a2 : Option Addr) (st ln : List Int) (c1 c2 : Nat) (kerf : Int) (w : World) (hv1 : IntsV w a1 st) (hv2 : IntsV w a2 ln) (hl1 : st.length ≤ 100000) (hl2 : ln.length ≤ 100000) :
    Calls Tryz.prog 52 #[.agg #[.slice a1 st.length c1, .slice a2 ln.length c2, .int .i64 kerf]] w fun e w' => e = .returned (.int .i64 (crossE st ln kerf)) ∧ Below w.heap.size w w' := by
 by_cases hbig : 10 < st.length ∨ 10 < ln.length
 ·have HE := Lib.hid (show crossE st ln kerf = 8 by unfold crossE; rw [if_pos hbig])
  by_cases hb1 : 10 < st.length
  ·have hb2 : (st.length : Int) > 10 := by omega
   go_enter Tryz.func52, Tryz.ntmps52
   go_wp2_with fail
   go_ret
   exact ⟨ret_int HE.out.symm, (Below.refl _ _).alloc (Nat.le_refl _) _⟩
  ·have hb2 : ¬ (st.length : Int) > 10 := by omega
   have hb3 : (ln.length : Int) > 10 := by omega
   go_enter Tryz.func52, Tryz.ntmps52
   go_wp2_with fail
   go_ret
   exact ⟨ret_int HE.out.symm, (Below.refl _ _).alloc (Nat.le_refl _) _⟩
 ·have hb1 : ¬ (st.length : Int) > 10 := by omega
  have hb2 : ¬ (ln.length : Int) > 10 := by omega
  have HE := Lib.hid (show crossE st ln kerf = if (st ++ ln).all barOk = false then 2 else if withinB kerf 0 10000 = false then 2 else 0 by unfold crossE; rw [if_neg hbig])
  have HLL := Lib.hid (show (st ++ ln).length ≤ 20 by rw [List.length_append]; omega)
  obtain ⟨al, hal⟩ : ∃ al, al = st ++ ln := ⟨_, rfl⟩
  rw [← hal] at HE HLL
  have HAL := Lib.hid hal
  clear hbig hal
  go_enter Tryz.func52, Tryz.ntmps52
  go_upto_region 3 with fail
  refine gen_world (fun W => CB W w.heap.size a1 st.length c1 a2 ln.length c2 kerf ∧ Below w.heap.size w W ∧ w.heap.size < W.heap.size) ⟨⟨by simp, by simp, by simp⟩, (Below.refl _ _).alloc (Nat.le_refl _) _, by simp⟩ ?_
  rintro W ⟨hC, hbW, hzW⟩
  have HC := Lib.hid hC
  have HBW := Lib.hid hbW
  obtain ⟨k0, k1, k2⟩ := hC
  clear hbW
  go_wp2_with (go_at_call 95; refine (concat_any W.heap.size a1 a2 st ln c1 c2 _ (by simp) (by simp) (intsV_keep hv1 (HBW.out.alloc HBW.out.size _)) (intsV_keep hv2 (HBW.out.alloc HBW.out.size _)) (by omega) (by omega)).mono ?_; rintro e w1 ⟨v, rfl, ho, hb⟩; rw [← HAL.out] at ho; have HB := Lib.hid (((Below.refl W.heap.size W).alloc (Nat.le_refl _) _).trans (hb.mono (by simp))); obtain ⟨a3, c3, rfl, hiv⟩ := own_ints' ho; have HIV := Lib.hid hiv; clear ho hb hiv)
  clear k0 k1 k2
  go_loopw [22] (fun iv wr => ∃ k : Nat, k ≤ al.length ∧ iv = .int .i64 k ∧ Hid (∀ j (hj : j < al.length), j < k → barOk al[j] = true) ∧ Below w1.heap.size w1 wr) (fun iv _ => al.length - (intOf iv).toNat)
  case atStart => exact ⟨0, Nat.zero_le _, rfl, Lib.hid (fun j _ h => by omega), Below.refl _ _⟩
  case round =>
   obtain ⟨k, hk, rfl, HK, hbr⟩ := hrel
   have HBW1 := Lib.hid (HBW.out.trans ((HB.out.trans (hbr.mono HB.out.size)).mono (Nat.le_of_lt hzW)))
   have hll := HLL.out
   by_cases hlt : k < al.length
   ·obtain ⟨b, off, ha, hcl⟩ := intsV_keep HIV.out hbr (by rintro rfl; simp at hlt)
    have c0 := hcl k al[k] (List.getElem?_eq_getElem hlt)
    subst ha
    have HN := Lib.hid (fun h => all_no (p := barOk) hlt h)
    have HS := Lib.hid (fun h => all_step (p := barOk) hlt HK.out h)
    have hki : (k : Int) < (al.length : Int) := by omega
    clear HK hcl
    generalize al[k] = x at *
    cases hq : barOk x
    ·have hr := Lib.hid (HN.out hq)
     have hq' := Lib.hid (show withinB x 1 600000 = false from hq)
     clear hq HN HS
     go_wp2_with (go_at_call 30; refine (cwithin_is _ _ _ _ hq'.out).mono ?_; rintro e w' ⟨rfl, rfl⟩)
     go_ret
     exact ⟨ret_int (by rw [HE.out, if_pos hr.out]), HBW1.out⟩
    ·have hr := Lib.hid (HS.out hq)
     have hq' := Lib.hid (show withinB x 1 600000 = true from hq)
     clear hq HN HS
     go_wp2_with (go_at_call 30; refine (cwithin_is _ _ _ _ hq'.out).mono ?_; rintro e w' ⟨rfl, rfl⟩)
     go_roundw
     case rel => exact ⟨k + 1, by omega, by go_num, hr, hbr⟩
     case measure => simp [intOf]; omega
   ·have HA := Lib.hid (all_yes (p := barOk) (by omega) HK.out)
    have hki : ¬ (k : Int) < (al.length : Int) := by omega
    obtain ⟨k0, k1, k2⟩ := HC.out.keep (HB.out.trans (hbr.mono HB.out.size))
    clear HK
    cases hq : withinB kerf 0 10000
    ·have HQ := Lib.hid hq
     have HE2 := Lib.hid (show crossE st ln kerf = 2 by rw [HE.out, if_neg (by rw [HA.out]; decide), if_pos hq])
     clear hq
     go_wp2_with (go_at_call 30; refine (cwithin_is _ _ _ _ HQ.out).mono ?_; rintro e w' ⟨rfl, rfl⟩)
     go_ret
     exact ⟨ret_int HE2.out.symm, HBW1.out⟩
    ·have HQ := Lib.hid hq
     have HE2 := Lib.hid (show crossE st ln kerf = 0 by rw [HE.out, if_neg (by rw [HA.out]; decide), if_neg (by rw [hq]; decide)])
     clear hq
     go_wp2_with (go_at_call 30; refine (cwithin_is _ _ _ _ HQ.out).mono ?_; rintro e w' ⟨rfl, rfl⟩)
     go_ret
     exact ⟨ret_int HE2.out.symm, HBW1.out⟩

theorem sortStable_any (f : FuncId) (caps : Array Value) (n : Nat) [Inhabited (Ix n)] (cf : Ix n → Ix n → Int) (blk cap : Nat) (d : Array (Ix n)) (w : World) (eg : ∀ args w, (callFunc f args).run Tryz.prog w = .ok (.enter f args) w)
    (hlay : CmpLays1 Tryz.prog f caps (encI n) cf blk 0 d.size w) (hlt : blk < w.heap.size) (hH : Holds (encI n) w blk 0 d) (hd : d.size < 20) :
    Calls Tryz.prog 76 #[.slice (some ⟨blk, 0, none⟩) d.size cap, .func (.func f) #[] caps] w
     fun e w' => e = .returned (.tuple #[]) ∧ Go.Proofs.SW (encI n) w blk 0 (Sort.insertionSort (ltOf cf) d 0 d.size) w' := by
 have hS : Go.Proofs.SW (encI n) w blk 0 d w := Go.Proofs.SW.start hH
 have HC : Hid (Calls Tryz.prog 121 #[.slice (some ⟨blk, 0, none⟩) d.size cap, .int .i64 0, .int .i64 d.size, .func (.func f) #[] caps] w fun e w' => e = .returned (.tuple #[]) ∧ Go.Proofs.SW (encI n) w blk 0 (Sort.insertionSort (ltOf cf) d 0 d.size) w') :=
  Lib.hid (Tryz.insertionSortCmpFunc_s (encI n) cf f caps blk 0 cap 0 d.size d d w w eg hlay ⟨fun _ => rfl, hH, hlt⟩ rfl hS (Nat.zero_le _) (Nat.le_refl _) (by omega))
 have hn : (d.size : Int) < 20 := by omega
 clear hH hS hlay eg
 generalize Go.Proofs.SW (encI n) w blk 0 (Sort.insertionSort (ltOf cf) d 0 d.size) = S at *
 generalize d.size = m at *
 have HB : Calls Tryz.prog 103 #[.slice (some ⟨blk, 0, none⟩) m cap, .int .i64 m, .func (.func f) #[] caps] w fun e w' => e = .returned (.tuple #[]) ∧ S w' := by
  go_enter Tryz.func103, Tryz.ntmps103
  go_wp2_with (first
   | (go_at_call 121; refine HC.out.mono ?_; rintro e w1 ⟨rfl, hs1⟩; have HS1 := Lib.hid hs1; clear hs1)
   | (with_reducible refine rounds_step ?_)
   | (with_reducible refine wp_loop_rounds 1 ?_))
  exact bodyPost_end (v := .tuple #[]) (by simp [results, Tryz.results103, go_sem]) rfl ⟨rfl, HS1.out⟩
 have HB := Lib.hid HB
 clear HC
 go_enter Tryz.func76, Tryz.ntmps76
 go_wp2_with (go_at_call 103; refine HB.out.mono ?_; rintro e w1 ⟨rfl, hs1⟩; have HS1 := Lib.hid hs1; clear hs1)
 exact bodyPost_end (v := .tuple #[]) (by simp [results, Tryz.results76, go_sem]) rfl ⟨rfl, HS1.out⟩
section
variable {α β : Type} [Inhabited α] [Inhabited β] (f : α → β) (lt : β → β → Bool)
theorem posL_map (pre : List α) (x : α) : ∀ k, k ≤ pre.length → posL (fun a b => lt (f a) (f b)) pre x k = posL lt (pre.map f) (f x) k
 | 0, _ => rfl
 | k + 1, h => by
  have e : (pre.map f).getD k default = f (pre.getD k default) := by
   simp only [List.getD_eq_getElem?_getD]
   rw [List.getElem?_map, List.getElem?_eq_getElem (by omega : k < pre.length)]; rfl
  unfold posL
  rw [e, posL_map pre x k (by omega)]
theorem insL_mapf (pre : List α) (x : α) : (insL (fun a b => lt (f a) (f b)) pre x).map f = insL lt (pre.map f) (f x) := by
 unfold insL
 rw [posL_map f lt pre x _ (Nat.le_refl _)]
 simp [List.map_take, List.map_drop]
theorem sortL_mapf : ∀ (r acc : List α), (sortL (fun a b => lt (f a) (f b)) r acc).map f = sortL lt (r.map f) (acc.map f)
 | [], _ => rfl
 | x :: r, acc => by rw [sortL, sortL_mapf, insL_mapf]; rfl
end
end Go.Proofs.YtjmgboipbhddlaaGreatDoor

set_option linter.unusedVariables false
set_option linter.unusedSimpArgs false
namespace Go.Proofs.YtjmgboipbhddlaaGreatDoor
open Go Go.RowKit Go.Sort Go.Lib

set_option maxRecDepth 100000 in
set_option maxHeartbeats 2000000 in
theorem longest1_any (g1 : Nat) (st : List Int) (a1 : Option Addr) (c1 a b : Nat) (w : World) (hc : w.cell? ⟨g1, 0, none⟩ = some (.slice a1 st.length c1)) (hv : IntsV w a1 st) (hl : st.length ≤ 100000) (ha : a < st.length) (hb : b < st.length) :
    Calls Tryz.prog 96 #[.int .i64 a, .int .i64 b, .pointer (some ⟨g1, 0, none⟩)] w fun e w' => e = .returned (.int .i64 (cmpI st[b] st[a])) ∧ (Below w.heap.size w w' ∧ w.drawn ≤ w'.drawn) := by
 obtain ⟨g, off, rfl, hx⟩ := hv (by rintro rfl; simp at ha)
 have k0 := hx a st[a] (List.getElem?_eq_getElem ha)
 have k1 := hx b st[b] (List.getElem?_eq_getElem hb)
 have hai : (a : Int) < (st.length : Int) := by omega
 have hbi : (b : Int) < (st.length : Int) := by omega
 clear hx hv
 generalize st[a] = x at *
 generalize st[b] = y at *
 clear ha hb
 generalize st.length = n at *
 go_enter Tryz.func96, Tryz.ntmps96
 go_wp2_with fail
 go_quiet ((go_at_call 79; exact quiet_left (compare_any _ _ _)))
 rename_i nq
 go_wp2_with fail
 go_ret
 exact ⟨rfl, below_drewN (Below.refl _ _) nq, by simp [World.drewN]⟩
def cfL (st : List Int) (x y : Ix st.length) : Int := cmpI st[y.1] st[x.1]
theorem cmpLaysL (g1 : Nat) (st : List Int) [Inhabited (Ix st.length)] (a1 : Option Addr) (c1 blk size : Nat) (W0 w : World) (hb : Below W0.heap.size W0 w) (hc : W0.cell? ⟨g1, 0, none⟩ = some (.slice a1 st.length c1)) (hv : IntsV W0 a1 st) (hl : st.length ≤ 100000) (hblk : W0.heap.size ≤ blk) :
    CmpLays1 Tryz.prog 96 #[.pointer (some ⟨g1, 0, none⟩)] (encI st.length) (cfL st) blk 0 size w := fun m os dk _ x y => by
 have hS : Below W0.heap.size W0 (Go.Proofs.sortWorld (encI st.length) w blk 0 m dk os) := below_sortW hb hblk hb.size
 exact (longest1_any g1 st a1 c1 x.1 y.1 _ (cell_keep hS hc) (intsV_keep hv hS) hl x.2 y.2).mono fun e w' ⟨he, hb', hd⟩ => ⟨he, grow_of hb' hd⟩
theorem cmpI_lt (x y : Int) : decide (cmpI x y < 0) = decide (x < y) := by
 unfold cmpI
 rw [Bool.eq_iff_iff]
 simp only [decide_eq_true_eq]
 split
 ·omega
 ·split <;> omega
def fallB (st : List Int) (x y : Nat) : Bool := decide (st.getD y 0 < st.getD x 0)
def longM (st : List Int) : List Nat := sortL (fallB st) (List.range st.length) []
def fallL (st : List Int) : List Int := sortL (fun a b => decide (b < a)) st []
theorem longM_len (st : List Int) : (longM st).length = st.length := by unfold longM; rw [sortL_len]; simp
theorem longM_vals (st : List Int) : (longM st).map (fun i => st.getD i 0) = fallL st := by
 have h := sortL_mapf (fun i : Nat => st.getD i 0) (fun a b : Int => decide (b < a)) (List.range st.length) []
 have e : (List.range st.length).map (fun i : Nat => st.getD i 0) = st := by
  apply List.ext_getElem (by simp)
  intro i h1 h2
  simp [List.getD_eq_getElem?_getD, List.getElem?_eq_getElem h2]
 rw [e] at h
 exact h
theorem mem_insL {α : Type} [Inhabited α] {lt : α → α → Bool} {pre : List α} {x y : α} : y ∈ insL lt pre x ↔ y = x ∨ y ∈ pre := by
 unfold insL
 rw [List.mem_append, List.mem_cons]
 constructor
 ·rintro (h | h | h)
  ·exact .inr (List.mem_of_mem_take h)
  ·exact .inl h
  ·exact .inr (List.mem_of_mem_drop h)
 ·rintro (h | h)
  ·exact .inr (.inl h)
  ·rw [← List.take_append_drop (posL lt pre x pre.length) pre, List.mem_append] at h
   rcases h with h | h
   ·exact .inl h
   ·exact .inr (.inr h)
theorem mem_sortL {α : Type} [Inhabited α] {lt : α → α → Bool} {y : α} : ∀ {r acc : List α}, y ∈ sortL lt r acc ↔ y ∈ r ∨ y ∈ acc
 | [], acc => by simp [sortL]
 | x :: r, acc => by
  rw [sortL, mem_sortL, mem_insL, List.mem_cons]
  constructor
  ·rintro (h | h | h)
   ·exact .inl (.inr h)
   ·exact .inl (.inl h)
   ·exact .inr h
  ·rintro ((h | h) | h)
   ·exact .inr (.inl h)
   ·exact .inl h
   ·exact .inr (.inr h)
theorem longM_lt {st : List Int} {i : Nat} (h : i ∈ longM st) : i < st.length := by
 unfold longM at h
 rw [mem_sortL] at h
 simpa using h
theorem sort_long {st : List Int} [Inhabited (Ix st.length)] (hne : st ≠ []) :
    ((Sort.insertionSort (ltOf (cfL st)) (ixs st.length).toArray 0 st.length).toList.map (·.1)) = longM st ∧ (Sort.insertionSort (ltOf (cfL st)) (ixs st.length).toArray 0 st.length).size = st.length := by
 have hl := ixs_len st.length
 have h := insertionSort_all (ltOf (cfL st)) (ixs st.length) (by
  intro e
  rw [e] at hl
  exact hne (List.length_eq_zero_iff.1 hl.symm))
 rw [hl] at h
 rw [h]
 have hlt : ltOf (cfL st) = fun a b : Ix st.length => fallB st a.1 b.1 := by
  funext a b
  unfold ltOf cfL fallB
  rw [cmpI_lt]
  rw [show st.getD b.1 0 = st[b.1] by rw [List.getD_eq_getElem?_getD, List.getElem?_eq_getElem b.2]; rfl, show st.getD a.1 0 = st[a.1] by rw [List.getD_eq_getElem?_getD, List.getElem?_eq_getElem a.2]; rfl]
 constructor
 ·simp only [List.toList_toArray]
  rw [hlt, sortL_mapf (fun i : Ix st.length => i.1) (fallB st), ixs_val]; rfl
 ·simp only [List.size_toArray]
  rw [sortL_len, hl]; simp
theorem sortLong_any (g1 : Nat) (st : List Int) (a1 : Option Addr) (c1 blk cap base : Nat) (W0 w : World) (hb : Below W0.heap.size W0 w) (hc : W0.cell? ⟨g1, 0, none⟩ = some (.slice a1 st.length c1)) (hv : IntsV W0 a1 st) (hl : st.length < 20) (hblk : W0.heap.size ≤ blk)
    (hown : w.ownsRow base 3 1 (.slice (some ⟨blk, 0, none⟩) st.length cap) st.length (((List.range st.length).map fun i : Nat => (i : Int)).map (Value.int .i64))) :
    Calls Tryz.prog 76 #[.slice (some ⟨blk, 0, none⟩) st.length cap, .func (.func 96) #[] #[.pointer (some ⟨g1, 0, none⟩)]] w
     fun e w' => e = .returned (.tuple #[]) ∧ w'.ownsRow base 3 1 (.slice (some ⟨blk, 0, none⟩) st.length cap) st.length (((longM st).map fun i : Nat => (i : Int)).map (Value.int .i64)) ∧ w.grownBy w' (some blk) := by
 by_cases hne : st = []
 ·subst hne
  refine (sortNone_any _ _ blk cap w).mono ?_
  rintro e w' ⟨he, rfl⟩
  exact ⟨he, hown, grownBy_below (Below.refl _ _) _⟩
 ·have hpos : 0 < st.length := by
    cases hbk : st with
    | nil => exact absurd hbk hne
    | cons _ _ => simp
  haveI : Inhabited (Ix st.length) := ⟨⟨0, hpos⟩⟩
  rcases hown.2 with ⟨h0, _⟩ | ⟨g', cap', cur, hv', hbase, hbk, h1, h2, h3, h4⟩
  ·cases h0
  ·injection hv' with hv1 _ hv2
   injection hv1 with hv1
   injection hv1 with hv1
   subst hv1 hv2
   have hgl : blk < w.heap.size := (Array.getElem?_eq_some_iff.1 hbk).1
   have hH0 : Holds (Value.int .i64) w blk 0 ((List.range st.length).map fun i : Nat => (i : Int)).toArray := holds_of_blockI hbk (by simpa using h4)
   have hsz0 : (ixs st.length).toArray.size = st.length := by simp [ixs_len]
   have hs := sortStable_any 96 #[.pointer (some ⟨g1, 0, none⟩)] st.length (cfL st) blk cap (ixs st.length).toArray w (enters_of Tryz.func96 (by kernel_rfl) rfl)
    (cmpLaysL g1 st a1 c1 blk _ W0 w hb hc hv (by omega) hblk) hgl (holds_ixs hH0) (by rw [hsz0]; exact hl)
   rw [hsz0] at hs
   refine hs.mono ?_
   rintro e w1 ⟨he, hs⟩
   refine ⟨he, ?_⟩
   obtain ⟨m, os, rfl⟩ := sw_int hs
   obtain ⟨e1, e2⟩ := sort_long hne
   have e3 : ((Sort.insertionSort (ltOf (cfL st)) (ixs st.length).toArray 0 st.length).toList.map fun x => (x.1 : Int)) = (longM st).map fun i : Nat => (i : Int) := by
    rw [← e1, List.map_map]; rfl
   rw [e3]
   refine ⟨?_, grownBy_sortedI _⟩
   have := ownsRow_sortedI (n := m) (os := os) (ss := (List.range st.length).map fun i : Nat => (i : Int)) (ts := (longM st).map fun i : Nat => (i : Int)) (by simp [longM_len]) hbase hbk (by simpa using h1) h2 h3
   simpa using this

theorem make_run (n : Nat) (hn : n ≤ 1000000) (W : World) : (Instr.makeSlice 73 (.int .i64 (n : Int)) (.int .i64 (n : Int))).run Tryz.prog W = .ok (.slice (some ⟨W.heap.size, 0, none⟩) n n) (W.alloc (.cells (madeCells #[.int .i64 0] n) 3)) := by
 obtain ⟨n0, hn0, hx0, hx1, hx2⟩ := info_parts int_info
 have := run_make (P := Tryz.prog) W 73 3 n0 (.int .i64 0) Tryz.underlying73 hn0 hx0 .i64 .i64 (n : Int) (n : Int) (by omega) (Int.le_refl _) (by rw [hx2]; omega) (by omega)
 rw [this]
 simp [hx1, Value.cells]
set_option maxRecDepth 100000 in
set_option maxHeartbeats 4000000 in
theorem longest_any (a1 : Option Addr) (st : List Int) (c1 : Nat) (w : World) (hv : IntsV w a1 st) (hl : st.length < 20) :
    Calls Tryz.prog 53 #[.slice a1 st.length c1] w (RowPost w ((longM st).map fun i : Nat => (i : Int))) := by
 have hmk := make_run st.length (by omega)
 go_enter Tryz.func53, Tryz.ntmps53
 go_upto_region 1 with fail
 refine gen_world (fun W => W.cell? ⟨w.heap.size, 0, none⟩ = some (.slice a1 st.length c1) ∧ Below w.heap.size w W ∧ w.heap.size < W.heap.size) ⟨by simp, (Below.refl _ _).alloc (Nat.le_refl _) _, by simp⟩ ?_
 rintro wo ⟨j0, hbW, hzW⟩
 have HJ0 := Lib.hid j0
 have HBW := Lib.hid hbW
 obtain ⟨gj, hgj⟩ : ∃ g, g = w.heap.size := ⟨_, rfl⟩
 rw [← hgj] at j0 HJ0 hzW ⊢
 have HGJ := Lib.hid hgj
 clear hbW hgj
 go_wp2_with fail
 clear j0 hmk
 obtain ⟨B2, hB2⟩ : ∃ B, B = wo.heap.size := ⟨_, rfl⟩
 have HB2 := Lib.hid hB2
 rw [← hB2] at hzW ⊢
 clear hB2
 go_loopw [10] (fun iv wr => ∃ m : Nat, m ≤ st.length ∧ iv = .int .i64 m ∧ Hid (wr.ownsRow B2 3 1 (.slice (some ⟨B2, 0, none⟩) st.length st.length) st.length ((ordI st.length m).map (Value.int .i64))) ∧ Below B2 wo wr) (fun iv _ => st.length - (intOf iv).toNat)
 case atStart =>
  refine ⟨0, Nat.zero_le _, rfl, Lib.hid ?_, ?_⟩
  ·have h := made_own (w := wo) (base := B2) (n := st.length) (T := 3) (z := .int .i64 0) (by rw [HB2.out]; exact Nat.le_refl _) (by unfold maxLen; omega)
   rw [ordI_zero, List.map_replicate]
   rw [← HB2.out] at h
   exact h
  ·exact (Below.refl _ _).alloc (by rw [HB2.out]; exact Nat.le_refl _) _
 case round =>
  obtain ⟨m, hm, rfl, HO, hbw⟩ := hrel
  have hzB := own_blk HO.out
  by_cases hlt : m < st.length
  ·obtain ⟨x, c0, f0⟩ : ∃ x, wr.cell? ⟨B2, m, none⟩ = some (.int .i64 x) ∧ wr.frozen? ⟨B2, m, none⟩ = false := ⟨_, own_int_cell HO.out (by rw [ordI_len hm]; exact hlt)⟩
   have hmi : (m : Int) < (st.length : Int) := by omega
   go_wp2_with fail
   go_roundw
   case rel =>
    refine ⟨m + 1, by omega, by go_num, Lib.hid ?_, hbw.setCell (by simp) _⟩
    have h := own_set1 (x := (m : Int)) HO.out (by rw [ordI_len hm]; exact hlt)
    rw [ordI_step hlt] at h
    exact h
   case measure => simp [intOf]; omega
  ·obtain rfl : m = st.length := by omega
   have HO2 := HO.out
   rw [ordI_all] at HO2
   have HO3 := Lib.hid HO2
   have HBW2 := Lib.hid hbw
   clear HO HO2 hbw
   go_wp2_with (go_at_call 76; refine (sortLong_any gj st a1 c1 B2 st.length B2 wo _ (by rw [← HB2.out]; exact HBW2.out) HJ0.out (intsV_keep hv HBW.out) hl (by rw [← HB2.out]; exact Nat.le_refl _) HO3.out).mono ?_; rintro e w3 ⟨rfl, ho3, hg3⟩; have HO4 := Lib.hid ho3; have HG3 := Lib.hid hg3; clear ho3 hg3)
   go_ret
   refine ⟨_, rfl, ?_, ?_⟩
   ·have h := own_mono HO4.out (base' := w.heap.size) (by have := HGJ.out; omega)
    simpa [longM_len] using h
   ·have h1 : Below B2 wo w3 := HBW2.out.grown HG3.out (by have := HBW2.out.size; rw [HB2.out]; exact this) (fun k hk => by injection hk with hk; omega)
    exact HBW.out.trans (h1.mono (by have := HGJ.out; omega))
end Go.Proofs.YtjmgboipbhddlaaGreatDoor

set_option linter.unusedVariables false
set_option linter.unusedSimpArgs false
namespace Go.Proofs.YtjmgboipbhddlaaGreatDoor
open Go Go.RowKit

def leastGo (kerf : Int) : List Int → Int → Nat → Int × Int
 | [], need, n => if 0 < need then (0, 12) else (n, 0)
 | v :: r, need, n => if 0 < need then leastGo kerf r (need - (v + kerf)) (n + 1) else (n, 0)
def sumK (kerf : Int) : List Int → Int
 | [] => 0
 | x :: r => x + kerf + sumK kerf r
def leastM (st ln : List Int) (kerf : Int) : Int × Int := if crossE st ln kerf ≠ 0 then (0, crossE st ln kerf) else leastGo kerf (fallL st) (sumK kerf ln) 0
theorem leastGo_stop {kerf : Int} {l : List Int} {need : Int} {n : Nat} {q : Int × Int} (h : q = leastGo kerf l need n) (hn : ¬ 0 < need) : q = ((n : Int), 0) := by
 rw [h]
 cases l <;> simp [leastGo, hn]
theorem leastGo_out {kerf : Int} {l : List Int} {k : Nat} {need : Int} {n : Nat} {q : Int × Int} (hk : l.length ≤ k) (h : q = leastGo kerf (l.drop k) need n) (hn : 0 < need) : q = (0, 12) := by
 rw [h, List.drop_of_length_le hk]
 simp [leastGo, hn]
theorem leastGo_step {kerf : Int} {l : List Int} {k : Nat} {need : Int} {n : Nat} {q : Int × Int} (hk : k < l.length) (h : q = leastGo kerf (l.drop k) need n) (hn : 0 < need) : q = leastGo kerf (l.drop (k + 1)) (need - (l[k] + kerf)) (n + 1) := by
 rw [h, List.drop_eq_getElem_cons hk, leastGo, if_pos hn]
theorem sumK_step {kerf : Int} {l : List Int} {k : Nat} (hk : k < l.length) : sumK kerf (l.drop k) = l[k] + kerf + sumK kerf (l.drop (k + 1)) := by rw [List.drop_eq_getElem_cons hk, sumK]
theorem cross_ok {st ln : List Int} {kerf : Int} (h : crossE st ln kerf = 0) : (st.length ≤ 10 ∧ ln.length ≤ 10) ∧ (∀ x ∈ st, 1 ≤ x ∧ x ≤ 600000) ∧ (∀ x ∈ ln, 1 ≤ x ∧ x ≤ 600000) ∧ (0 ≤ kerf ∧ kerf ≤ 10000) := by
 unfold crossE at h
 split at h
 ·cases h
 ·split at h
  ·cases h
  ·split at h
   ·cases h
   ·rename_i h1 h2 h3
    simp only [Bool.not_eq_false] at h2 h3
    rw [List.all_eq_true] at h2
    exact ⟨by omega, fun x hx => withinB_true (h2 x (List.mem_append_left _ hx)), fun x hx => withinB_true (h2 x (List.mem_append_right _ hx)), withinB_true h3⟩
theorem fallL_len (st : List Int) : (fallL st).length = st.length := by unfold fallL; rw [sortL_len]; simp

theorem ret_least {a b : Int} {q : Int × Int} (h : q = (a, b)) : Ending.returned (.tuple #[.int .i64 a, .int .i64 b]) = .returned (.tuple #[.int .i64 q.1, .int .i64 q.2]) := by rw [h]
set_option maxRecDepth 100000 in
set_option maxHeartbeats 4000000 in
theorem leastBars_any (a1 a2 : Option Addr) (st ln : List Int) (c1 c2 : Nat) (kerf : Int) (w : World) (hv1 : IntsV w a1 st) (hv2 : IntsV w a2 ln) (hl1 : st.length ≤ 100000) (hl2 : ln.length ≤ 100000) :
    Calls Tryz.prog 24 #[.agg #[.slice a1 st.length c1, .slice a2 ln.length c2, .int .i64 kerf]] w fun e w' => e = .returned (.tuple #[.int .i64 (leastM st ln kerf).1, .int .i64 (leastM st ln kerf).2]) ∧ Below w.heap.size w w' := by
 by_cases he : crossE st ln kerf = 0
 ·have HM := Lib.hid (show leastM st ln kerf = leastGo kerf ((fallL st).drop 0) (sumK kerf ln) 0 by unfold leastM; rw [if_neg (by simp [he])]; rfl)
  have HE := Lib.hid he
  have hok := cross_ok he
  generalize leastM st ln kerf = q at *
  obtain ⟨⟨s10, l10⟩, hs, hl, hk⟩ := hok
  have HS := Lib.hid hs
  have HL := Lib.hid hl
  clear he hs hl
  go_enter Tryz.func24, Tryz.ntmps24
  go_upto_region 1 with fail
  refine gen_world (fun W => CB W w.heap.size a1 st.length c1 a2 ln.length c2 kerf ∧ Below w.heap.size w W ∧ w.heap.size < W.heap.size) ⟨⟨by simp, by simp, by simp⟩, (Below.refl _ _).alloc (Nat.le_refl _) _, by simp⟩ ?_
  rintro W ⟨hC, hbW, hzW⟩
  have HC := Lib.hid hC
  have HBW := Lib.hid hbW
  obtain ⟨k0, k1, k2⟩ := hC
  clear hbW
  go_upto_region 5 with (go_at_call 52; refine (checkCross_any a1 a2 st ln c1 c2 kerf _ (intsV_keep hv1 HBW.out) (intsV_keep hv2 HBW.out) hl1 hl2).mono ?_; rw [HE.out]; rintro e w1 ⟨rfl, hb⟩; have HB1 := Lib.hid hb; clear hb)
  have HC1 := Lib.hid (HC.out.keep HB1.out)
  have HB2 := Lib.hid (HBW.out.trans (HB1.out.mono (Nat.le_of_lt hzW)))
  have hz1 := HB1.out.size
  have hzw1 : w.heap.size < w1.heap.size := by omega
  clear k0 k1 k2 HC HBW HB1 hz1
  obtain ⟨k0, k1, k2⟩ := HC1.out
  go_wp2_with fail
  clear k0 k1 k2
  go_loopw [5, 18] (fun nv iv wr => ∃ (k : Nat) (N : Int), k ≤ ln.length ∧ iv = .int .i64 k ∧ nv = .int .i64 N ∧ (0 ≤ N ∧ N ≤ 610000 * k) ∧ Hid (sumK kerf ln = N + sumK kerf (ln.drop k)) ∧ Below w1.heap.size w1 wr) (fun _ iv _ => ln.length - (intOf iv).toNat)
  case atStart => exact ⟨0, 0, Nat.zero_le _, rfl, rfl, by omega, Lib.hid (by simp), Below.refl _ _⟩
  case round =>
   obtain ⟨k, N, hkl, rfl, rfl, hN, HN, hbr⟩ := hrel
   obtain ⟨k0, k1, k2⟩ := HC1.out.keep hbr
   have hbw := HB2.out.trans (hbr.mono (Nat.le_of_lt hzw1))
   by_cases hlt : k < ln.length
   ·obtain ⟨b, off, ha, hcl⟩ := intsV_keep hv2 hbw (by rintro rfl; simp at hlt)
    have c0 := hcl k ln[k] (List.getElem?_eq_getElem hlt)
    subst ha
    have hx := HL.out _ (List.getElem_mem hlt)
    have HN2 := Lib.hid (show sumK kerf ln = N + (ln[k] + kerf) + sumK kerf (ln.drop (k + 1)) by rw [HN.out, sumK_step hlt]; omega)
    have hki : (k : Int) < (ln.length : Int) := by omega
    generalize ln[k] = x at *
    have v1 : IntKind.i64.wrap (x + kerf) = x + kerf := IntWalk.i64_in _ (by omega)
    have v2 : IntKind.i64.wrap (N + (x + kerf)) = N + (x + kerf) := IntWalk.i64_in _ (by omega)
    clear HN hcl
    go_wp2_with fail
    go_roundw
    case rel => exact ⟨k + 1, N + (x + kerf), by omega, by go_num, rfl, by omega, HN2, hbr⟩
    case measure => simp [intOf]; omega
   ·have HNE := Lib.hid (show sumK kerf ln = N by rw [HN.out, List.drop_of_length_le (by omega)]; simp [sumK])
    have hki : ¬ (k : Int) < (ln.length : Int) := by omega
    have HBR := Lib.hid hbr
    have HBW := Lib.hid hbw
    have hN2 : 0 ≤ N ∧ N ≤ 6100000 := by omega
    clear HN hbr hbw hN
    go_upto_region 11 with (go_at_call 53; refine (longest_any a1 st c1 _ (intsV_keep hv1 HBW.out) (by omega)).mono ?_; rintro e w2 ⟨v, rfl, ho, hb⟩; obtain ⟨a3, c3, rfl, hiv⟩ := own_ints' ho; have HIV := Lib.hid hiv; have HB3 := Lib.hid hb; clear ho hb hiv)
    rw [longM_len]
    have HB4 := Lib.hid (HBW.out.trans (HB3.out.mono HBW.out.size))
    have HC2 := Lib.hid ((HC1.out.keep HBR.out).keep HB3.out)
    have HM2 := Lib.hid (show q = leastGo kerf ((fallL st).drop 0) N 0 by rw [← HNE.out]; exact HM.out)
    have hz4 := HB4.out.size
    clear k0 k1 k2 HB3 HBW HBR HM HNE
    go_loopw [5, 6] (fun nv iv wr => ∃ (k : Nat) (N : Int), k ≤ st.length ∧ iv = .int .i64 k ∧ nv = .int .i64 N ∧ (N ≤ 6100000 ∧ -610000 ≤ N) ∧ Hid (q = leastGo kerf ((fallL st).drop k) N k) ∧ Below w2.heap.size w2 wr) (fun _ iv _ => st.length - (intOf iv).toNat)
    case atStart => exact ⟨0, N, Nat.zero_le _, rfl, rfl, by omega, HM2, Below.refl _ _⟩
    case round =>
     clear HM2 hN2 hki hkl
     obtain ⟨m, M, hm, rfl, rfl, hM, HQ, hbr⟩ := hrel
     obtain ⟨k0, k1, k2⟩ := HC2.out.keep hbr
     have hbw := HB4.out.trans (hbr.mono (by omega))
     by_cases hpos : 0 < M
     ·have hpos' : M > 0 := hpos
      by_cases hlt : m < st.length
      ·have hml : m < (longM st).length := by rw [longM_len]; exact hlt
       obtain ⟨i, hi⟩ : ∃ i, i = (longM st)[m] := ⟨_, rfl⟩
       have hil : i < st.length := by rw [hi]; exact longM_lt (List.getElem_mem hml)
       obtain ⟨b, off, ha, hcl⟩ := intsV_keep HIV.out hbr (by intro h0; rw [List.map_eq_nil_iff] at h0; rw [h0] at hml; simp at hml)
       have c0 := hcl m (i : Int) (by rw [List.getElem?_map, List.getElem?_eq_getElem hml, hi]; rfl)
       obtain ⟨b', off', ha', hcl'⟩ := intsV_keep hv1 hbw (by rintro rfl; simp at hlt)
       have c0' := hcl' i st[i] (List.getElem?_eq_getElem hil)
       subst ha ha'
       have hfl : m < (fallL st).length := by rw [fallL_len]; exact hlt
       have hfe : (fallL st)[m] = st[i] := by
        have h1 : (fallL st)[m]? = some st[i] := by
         rw [← longM_vals, List.getElem?_map, List.getElem?_eq_getElem hml, ← hi]
         simp [List.getD_eq_getElem?_getD, List.getElem?_eq_getElem hil]
        rw [List.getElem?_eq_getElem hfl] at h1
        injection h1
       have hx := HS.out _ (List.getElem_mem hil)
       have hst := leastGo_step hfl HQ.out hpos
       rw [hfe] at hst
       have HST := Lib.hid hst
       have hmi : (m : Int) < (st.length : Int) := by omega
       have hii : (i : Int) < (st.length : Int) := by omega
       have hne : ((m : Int) == (st.length : Int)) = false := beq_f (by omega)
       have hne2 : (m == st.length) = false := by simpa using (show ¬ m = st.length by omega)
       have hg1 := block_lt_of_cell c0
       have hg2 := block_lt_of_cell c0'
       simp only at hg1 hg2
       clear hcl hcl' hi hst hfe HQ
       generalize st[i] = x at *
       have v1 : IntKind.i64.wrap (x + kerf) = x + kerf := IntWalk.i64_in _ (by omega)
       have v2 : IntKind.i64.wrap (M - (x + kerf)) = M - (x + kerf) := IntWalk.i64_in _ (by omega)
       have v3 : IntKind.i64.wrap ((m : Int) + 1) = (m : Int) + 1 := IntWalk.i64_in _ (by omega)
       go_wp2_with fail
       go_quiet (fail)
       rename_i nq
       go_wp2_with fail
       go_roundw
       case rel => exact ⟨m + 1, M - (x + kerf), by omega, by go_num, rfl, by omega, HST, below_drewN hbr nq⟩
       case measure => simp [intOf]; omega
      ·have HX := Lib.hid (leastGo_out (by rw [fallL_len]; omega) HQ.out hpos)
       obtain rfl : m = st.length := by omega
       go_wp2_with fail
       go_ret2
       exact ⟨ret_least HX.out, hbw⟩
     ·have hpos' : ¬ M > 0 := hpos
      have HX := Lib.hid (leastGo_stop HQ.out hpos)
      go_wp2_with fail
      go_ret2
      exact ⟨ret_least HX.out, hbw⟩
 ·have hne : (crossE st ln kerf != 0) = true := by simpa using he
  have HM := Lib.hid (show leastM st ln kerf = (0, crossE st ln kerf) by unfold leastM; rw [if_pos he])
  generalize leastM st ln kerf = q at *
  obtain ⟨E, hE⟩ : ∃ E, E = crossE st ln kerf := ⟨_, rfl⟩
  rw [← hE] at hne HM
  have HE := Lib.hid hE
  clear he hE
  go_enter Tryz.func24, Tryz.ntmps24
  go_wp2_with (go_at_call 52; refine (checkCross_any a1 a2 st ln c1 c2 kerf _ (intsV_keep hv1 ((Below.refl _ _).alloc (Nat.le_refl _) _)) (intsV_keep hv2 ((Below.refl _ _).alloc (Nat.le_refl _) _)) hl1 hl2).mono ?_; rw [← HE.out]; rintro e w1 ⟨rfl, hb⟩; have HB1 := Lib.hid hb; clear hb)
  go_ret2
  exact ⟨ret_least HM.out, ((Below.refl _ _).alloc (Nat.le_refl _) _).trans (HB1.out.mono (by simp))⟩
end Go.Proofs.YtjmgboipbhddlaaGreatDoor
