/- What moving does to planes and to their points (plain). -/
import Derived.Test.YtbhgkadklklmbaaGreatQD
set_option linter.unusedVariables false
set_option linter.unusedSimpArgs false
namespace Go.Proofs.YtbhgkadklklmbaaGreat

def outB (z : Int) : Bool := !withinB z (-600000) 600000
def farB (b : Vec) : Bool := [b.x, b.y, b.z].any outB
end Go.Proofs.YtbhgkadklklmbaaGreat
/- Turns: signed permutations, their numbers (plain). -/
set_option linter.unusedVariables false
set_option linter.unusedSimpArgs false
namespace Go.Proofs.YtbhgkadklklmbaaGreat

structure Trn where
 p0 : Nat
 p1 : Nat
 p2 : Nat
 s0 : Int
 s1 : Int
 s2 : Int
deriving DecidableEq
/-- The image of a vector. -/
def ofT (t : Trn) (v : Vec) : Vec := ⟨t.s0 * v.at_ t.p0, t.s1 * v.at_ t.p1, t.s2 * v.at_ t.p2⟩
structure Trn.wf (t : Trn) : Prop where
 a0 : t.p0 < 3
 a1 : t.p1 < 3
 a2 : t.p2 < 3
 b0 : t.s0 = 1 ∨ t.s0 = -1
 b1 : t.s1 = 1 ∨ t.s1 = -1
 b2 : t.s2 = 1 ∨ t.s2 = -1
def sgns (s : Nat) : Int × Int × Int := (1 - (s : Int) / 4 * 2, 1 - (s : Int) / 2 % 2 * 2, 1 - (s : Int) % 2 * 2)
def frm (p : Nat) : Nat × Nat × Nat := (p / 3, p % 3, 3 - p / 3 - p % 3)
def mkT (p s : Nat) : Trn := ⟨(frm p).1, (frm p).2.1, (frm p).2.2, (sgns s).1, (sgns s).2.1, (sgns s).2.2⟩
/-- The turns in the order in which they are found. -/
def trnP (p : Nat) : List Trn := if (frm p).1 = (frm p).2.1 then [] else (List.range 8).map (mkT p)
def trnA : List Trn := (List.range 9).flatMap trnP
def mirB (t : Trn) : Bool := decide (crs (ofT t ⟨1, 0, 0⟩) (ofT t ⟨0, 1, 0⟩) ≠ ofT t ⟨0, 0, 1⟩)
/-- The turns by their numbers. -/
def trnL : List Trn := trnA.filter (fun t => !mirB t) ++ trnA.filter mirB
theorem trnL_len : trnL.length = 48 := by decide +kernel
instance (t : Trn) : Decidable t.wf := decidable_of_iff (t.p0 < 3 ∧ t.p1 < 3 ∧ t.p2 < 3 ∧ (t.s0 = 1 ∨ t.s0 = -1) ∧ (t.s1 = 1 ∨ t.s1 = -1) ∧ (t.s2 = 1 ∨ t.s2 = -1)) ⟨fun ⟨a, b, c, d, e, f⟩ => ⟨a, b, c, d, e, f⟩, fun ⟨a, b, c, d, e, f⟩ => ⟨a, b, c, d, e, f⟩⟩
theorem trnA_wf : ∀ t ∈ trnA, t.wf := by decide +kernel
theorem trnL_wf : ∀ t ∈ trnL, t.wf := by
 intro t ht
 unfold trnL at ht
 rcases List.mem_append.1 ht with h | h <;> exact trnA_wf t (List.mem_filter.1 h).1
def t0 : Trn := ⟨0, 1, 2, 1, 1, 1⟩
/-- The turn of a number. -/
def trnN (n : Int) : Trn := trnL.getD n.toNat t0
def imgT (t : Trn) : Vec := ofT t ⟨1, 2, 3⟩
def bothW (a b : Int) : Vec := ofT (trnN b) (imgT (trnN a))
def bothM (a b : Int) : Int := idxOf (fun t => decide (imgT t = bothW a b)) trnL
def Trn.pI (t : Trn) (i : Nat) : Nat := if i = 0 then t.p0 else if i = 1 then t.p1 else t.p2
def Trn.sI (t : Trn) (i : Nat) : Int := if i = 0 then t.s0 else if i = 1 then t.s1 else t.s2
/-- One turn and then another one. -/
def cmpT (t u : Trn) : Trn := ⟨t.pI u.p0, t.pI u.p1, t.pI u.p2, u.s0 * t.sI u.p0, u.s1 * t.sI u.p1, u.s2 * t.sI u.p2⟩
theorem ofT_cmp (t u : Trn) (hu : u.wf) (v : Vec) : ofT (cmpT t u) v = ofT u (ofT t v) := by
 obtain ⟨a0, a1, a2, -, -, -⟩ := hu
 have key : ∀ i : Nat, i < 3 → ∀ s : Int, s * t.sI i * v.at_ (t.pI i) = s * (ofT t v).at_ i := by
  intro i h1 s
  have h : i = 0 ∨ i = 1 ∨ i = 2 := by omega
  rcases h with rfl | rfl | rfl <;> simp [Trn.sI, Trn.pI, Vec.at_, ofT, Int.mul_assoc]
 unfold cmpT
 show Vec.mk _ _ _ = Vec.mk _ _ _
 simp only [Vec.mk.injEq]
 exact ⟨key _ a0 _, key _ a1 _, key _ a2 _⟩
/-- What is checked of all pairs of turns. -/
def pairOk (a b : Nat) : Bool :=
 let k := bothM a b
 withinB k 0 47 && decide (trnN k = cmpT (trnN a) (trnN b)) && (decide (k < 24) == (decide ((a : Int) < 24) == decide ((b : Int) < 24)))
theorem pairs_ok : ∀ a < 48, ∀ b < 48, pairOk a b = true := by decide +kernel
/-- What is checked of each turn. -/
def oneOk (a : Nat) : Bool := decide (bothM a 0 = a) && decide (bothM 0 a = a) && decide (((List.range 48).filter (fun i => decide (bothM a (i : Nat) = 0))).length = 1)
theorem ones_ok : ∀ a < 48, oneOk a = true := by decide +kernel
end Go.Proofs.YtbhgkadklklmbaaGreat
/- Turns are a group (plain). -/
set_option linter.unusedVariables false
set_option linter.unusedSimpArgs false
namespace Go.Proofs.YtbhgkadklklmbaaGreat

theorem pair_at {a b : Int} (ha : 0 ≤ a ∧ a ≤ 47) (hb : 0 ≤ b ∧ b ≤ 47) : (0 ≤ bothM a b ∧ bothM a b ≤ 47) ∧ trnN (bothM a b) = cmpT (trnN a) (trnN b) ∧ (decide (bothM a b < 24) = (decide (a < 24) == decide (b < 24))) := by
 have h := pairs_ok a.toNat (by omega) b.toNat (by omega)
 unfold pairOk at h
 rw [show ((a.toNat : Nat) : Int) = a by omega, show ((b.toNat : Nat) : Int) = b by omega] at h
 simp only [Bool.and_eq_true, decide_eq_true_eq, beq_iff_eq] at h
 exact ⟨withinB_true h.1.1, h.1.2, h.2⟩
theorem trnN_mem {a : Int} (ha : 0 ≤ a ∧ a ≤ 47) : trnN a ∈ trnL := by
 unfold trnN
 have hl : a.toNat < trnL.length := by rw [trnL_len]; omega
 rw [show trnL.getD a.toNat t0 = trnL[a.toNat] by simp [List.getD, hl]]
 exact List.getElem_mem hl
theorem trnN_wf {a : Int} (ha : 0 ≤ a ∧ a ≤ 47) : (trnN a).wf := trnL_wf _ (trnN_mem ha)
theorem both_of {a b : Int} (ha : 0 ≤ a ∧ a ≤ 47) (hb : 0 ≤ b ∧ b ≤ 47) (v : Vec) : ofT (trnN (bothM a b)) v = ofT (trnN b) (ofT (trnN a) v) := by
 rw [(pair_at ha hb).2.1, ofT_cmp _ _ (trnN_wf hb)]
theorem both_assoc {a b c : Int} (ha : 0 ≤ a ∧ a ≤ 47) (hb : 0 ≤ b ∧ b ≤ 47) (hc : 0 ≤ c ∧ c ≤ 47) : bothM (bothM a b) c = bothM a (bothM b c) := by
 have h : bothW (bothM a b) c = bothW a (bothM b c) := by
  unfold bothW imgT
  rw [both_of ha hb, both_of hb hc]
 show idxOf (fun t => decide (imgT t = bothW (bothM a b) c)) trnL = idxOf (fun t => decide (imgT t = bothW a (bothM b c))) trnL
 rw [h]
theorem one_at {a : Int} (ha : 0 ≤ a ∧ a ≤ 47) : bothM a 0 = a ∧ bothM 0 a = a ∧ ((List.range 48).filter (fun i => decide (bothM a (i : Nat) = 0))).length = 1 := by
 have h := ones_ok a.toNat (by omega)
 unfold oneOk at h
 rw [show ((a.toNat : Nat) : Int) = a by omega] at h
 simp only [Bool.and_eq_true, decide_eq_true_eq] at h
 exact ⟨h.1.1, h.1.2, h.2⟩
/-- How many turns before the k-th lead back. -/
def backN (a : Int) (k : Nat) : Nat := ((List.range k).filter (fun i => decide (bothM a (i : Nat) = 0))).length
theorem backN_succ (a : Int) (k : Nat) : backN a (k + 1) = backN a k + if bothM a k = 0 then 1 else 0 := by
 unfold backN
 rw [List.range_succ, List.filter_append, List.length_append]
 by_cases h : bothM a k = 0 <;> simp [h]
theorem backN_le (a : Int) (k : Nat) : backN a k ≤ k := by
 unfold backN
 have := List.length_filter_le (fun i => decide (bothM a (i : Nat) = 0)) (List.range k)
 simpa using this
theorem ofT_in {t : Trn} (h : t.wf) {B : Int} {v : Vec} (hv : v.in_ B) : (ofT t v).in_ B := by
 obtain ⟨v1, v2, v3⟩ := hv
 have ha : ∀ i, -B ≤ v.at_ i ∧ v.at_ i ≤ B := fun i => by unfold Vec.at_; split; exact v1; exact v2; exact v3
 have hm : ∀ s i, s = 1 ∨ s = -1 → -B ≤ s * v.at_ i ∧ s * v.at_ i ≤ B := fun s i hs => by
  have := ha i
  rcases hs with rfl | rfl
  ·rw [Int.one_mul]; exact this
  ·rw [Int.neg_mul, Int.one_mul]; omega
 exact ⟨hm _ _ h.b0, hm _ _ h.b1, hm _ _ h.b2⟩
theorem farB_in {v : Vec} : farB v = false ↔ v.in_ 600000 := by
 unfold farB outB Vec.in_ withinB
 simp
 try omega
end Go.Proofs.YtbhgkadklklmbaaGreat
