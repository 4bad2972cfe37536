/- The volume of what is left and of what two solids of boxes share. -/
import Derived.Test.YtbhgkadklklmbaaGreatQT2
import Derived.Test.YtbhgkadklklmbaaGreatQZ
import Derived.Test.YtbhgkadklklmbaaGreatQM
import Derived.Test.YtbhgkadklklmbaaGreatQK
set_option linter.unusedVariables false
set_option linter.unusedSimpArgs false
namespace Go.Proofs.YtbhgkadklklmbaaGreat
open Go

theorem com_box {c d : List Pl} {B C : Box6} (hc : BoxC c B) (hd : BoxC d C) (h : comR c d = true) : (nf (c ++ d)).length = 6 := by
 have hs := com_sol hc.sol hd.sol h
 obtain ⟨D, hD⟩ := unit_box (nf_sol hs) (nf_nf hs) (by rw [com_nf hc.sol hd.sol h]; exact (hc.unit.append hd.unit).nf)
  fun o ho => fit_room hc.fit (hc.pts.1 ⟨ho.1, fun p hp => ((nf_body hs).1 ho).2 p (List.mem_append.2 (.inl hp))⟩)
 have := hD.form
 rw [nf_nf hs] at this
 rw [this]; rfl
theorem meetK_some {c : List Pl} {B : Box6} (hc : BoxC c B) : ∀ {y out : List (List Pl)}, AllBox y → out.length + y.length ≤ 100 → ∃ r, meetRK c out y = some r ∧ r.length ≤ out.length + y.length
 | [], out, _, _ => ⟨out, rfl, by simp⟩
 | d :: y, out, hy, hl => by
  have hd := hy d List.mem_cons_self
  have hy' : AllBox y := fun e he => hy e (List.mem_cons_of_mem _ he)
  rw [List.length_cons] at hl
  rw [meetRK]
  split
  ·rename_i hcm
   rw [if_neg (by rw [com_box hc hd hcm]; omega)]
   obtain ⟨r, h1, h2⟩ := meetK_some hc (out := out ++ [nf (c ++ d)]) hy' (by rw [List.length_append]; simp; omega)
   rw [List.length_append] at h2
   simp only [List.length_singleton] at h2
   exact ⟨r, h1, by rw [List.length_cons]; omega⟩
  ·obtain ⟨r, h1, h2⟩ := meetK_some hc (out := out) hy' (by omega)
   exact ⟨r, h1, by rw [List.length_cons]; omega⟩
theorem meet_some {y : List (List Pl)} (hy : AllBox y) : ∀ {x out : List (List Pl)}, AllBox x → out.length + x.length * y.length ≤ 100 → ∃ r, meetR y out x = some r
 | [], out, _, _ => ⟨out, rfl⟩
 | c :: x, out, hx, hl => by
  have hc := hx c List.mem_cons_self
  have hx' : AllBox x := fun e he => hx e (List.mem_cons_of_mem _ he)
  rw [List.length_cons, Nat.add_mul, Nat.one_mul] at hl
  obtain ⟨r, h1, h2⟩ := meetK_some hc hy (out := out) (by omega)
  rw [meetR, h1]
  exact meet_some hy hx' (by omega)
theorem pieces_chk {n : Nat} : ∀ {y ps r : List (List Pl)}, piecesR n ps y = some r → (n + ps.length ≤ 100 ∨ y ≠ []) → n + r.length ≤ 100
 | [], ps, r, h, hl => by rw [piecesR] at h; injection h with h; rw [← h]; exact hl.elim id fun h => absurd rfl h
 | d :: y, ps, r, h, hl => by
  rw [piecesR] at h
  split at h
  ·cases h
  ·rename_i ht
   refine pieces_chk h (.inl ?_)
   unfold tooMany at ht
   simp only [Bool.or_eq_true, decide_eq_true_eq, not_or] at ht
   omega
theorem left_chk {y : List (List Pl)} (hy : y ≠ []) : ∀ {x out l : List (List Pl)}, leftR y out x = some l → out.length ≤ 100 → l.length ≤ 100
 | [], out, l, h, hl => by rw [leftR] at h; injection h with h; rw [← h]; exact hl
 | c :: x, out, l, h, hl => by
  rw [leftR] at h
  cases hp : piecesR out.length [nf c] y with
  | none => rw [hp] at h; cases h
  | some r =>
   rw [hp] at h
   exact left_chk hy h (by rw [List.length_append]; exact pieces_chk hp (.inr hy))
theorem left_nil : ∀ {x out l : List (List Pl)}, leftR [] out x = some l → l.length = out.length + x.length
 | [], out, l, h => by rw [leftR] at h; injection h with h; rw [← h]; simp
 | c :: x, out, l, h => by
  rw [leftR, piecesR] at h
  have := left_nil h
  rw [this, List.length_append, List.length_cons]
  simp
  omega
theorem leftR_100 {x y l : List (List Pl)} (h : leftR y [] x = some l) (hx : x.length ≤ 100) : l.length ≤ 100 := by
 by_cases hy : y = []
 ·subst hy; rw [left_nil h]; simpa using hx
 ·exact left_chk hy h (by simp)
theorem vol_box {A : List Cell} (h0 : solE A = 0) (h : volE A = 0) : AllBox (A.map (·.planes)) := fun c hc => by
 have hr := readX h0 c hc
 unfold volE at h
 rw [if_neg (by simpa using h0)] at h
 split at h
 ·rename_i ha
  obtain ⟨B, hB⟩ := Option.isSome_iff_exists.1 (List.all_eq_true.1 ha c hc)
  exact BoxC.v ⟨hr, hB⟩
 ·cases h
theorem box_vol {l : List (List Pl)} (h : AllBox l) (hl : l.length ≤ 100) : volE (l.map Cell.mk) = 0 ∧ volV (l.map Cell.mk) = volB (l.map boxV) := by
 have e : volE (l.map Cell.mk) = 0 := by
  unfold volE
  rw [if_neg (by simpa using sol_mk (fun q hq => (h q hq).r) hl), mk_planes, if_pos (List.all_eq_true.2 fun q hq => by rw [(h q hq).b]; rfl)]
 refine ⟨e, ?_⟩
 unfold volV
 rw [if_pos e, mk_planes]
structure VolF (A B : List Cell) : Prop where
 bo : bothE A B = 0
 be : volE ((bothV A B).map Cell.mk) = 0
 bl : (bothV A B).length ≤ 100
 l8 : minE A B = 8 ∨ (minE A B = 0 ∧ volE ((leftV A B).map Cell.mk) = 0 ∧ volV ((leftV A B).map Cell.mk) + volV ((bothV A B).map Cell.mk) = volV A)
 ll : (leftV A B).length ≤ 100
theorem vol_facts {A B : List Cell} (h0 : twoE A B = 0) (ha : volE A = 0) (hb : volE B = 0) (hla : A.length ≤ 3) (hlb : B.length ≤ 3) : VolF A B := by
 obtain ⟨sa, sb⟩ := twoE_zero.1 h0
 have ba := vol_box sa ha
 have bb := vol_box sb hb
 obtain ⟨e1, e2⟩ := both_same h0
 obtain ⟨e3, e4⟩ := min_same h0
 obtain ⟨r, hr⟩ := meet_some bb (x := A.map (·.planes)) (out := []) ba (by
  have := Nat.mul_le_mul hla hlb
  simp; omega)
 have hv : bothV A B = r := by rw [e2]; unfold bothRV; rw [hr]; rfl
 have hrl := (meet_val (readX sa) (readX sb) hr).2
 have v1 := box_vol (both_box ba bb hr) hrl
 refine ⟨by rw [e1]; unfold bothRE; rw [hr], by rw [hv]; exact v1.1, by rw [hv]; exact hrl, ?_, ?_⟩
 ·cases hl : leftR (B.map (·.planes)) [] (A.map (·.planes)) with
  | none => left; rw [e3]; unfold leftRE; rw [hl]
  | some l =>
   have hw : leftV A B = l := by rw [e4]; unfold leftRV; rw [hl]; rfl
   have v2 := box_vol (left_box ba bb hl) (leftR_100 hl (by rw [List.length_map]; omega))
   right
   refine ⟨by rw [e3]; unfold leftRE; rw [hl], by rw [hw]; exact v2.1, ?_⟩
   rw [hw, hv, v1.2, v2.2, vol_parts ba bb hl hr]
   unfold volV
   rw [if_pos ha]
 ·rw [e4]
  unfold leftRV
  cases hl : leftR (B.map (·.planes)) [] (A.map (·.planes)) with
  | none => simp
  | some l => exact leftR_100 hl (by rw [List.length_map]; omega)
end Go.Proofs.YtbhgkadklklmbaaGreat
