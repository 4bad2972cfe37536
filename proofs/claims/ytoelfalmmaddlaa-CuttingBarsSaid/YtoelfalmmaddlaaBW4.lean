/- How many of the greatest numbers are enough, of the document's side. -/
import Derived.Test.YtoelfalmmaddlaaBW3
set_option linter.unusedVariables false
set_option linter.unusedSimpArgs false
namespace Go.Proofs.Ytoelfalmmaddlaa
open Go Go.RowKit Go.Sort Go.Lib

/-- How many of a row's first numbers reach a sum; none: all are too few. -/
def enoughM : List Int → Int → Nat → Option Nat
  | l, s, n => if s > 0 then match l with
    | [] => none
    | x :: l => enoughM l (s - x) (n + 1)
  else some n
def enoughV (l : List Int) (s : Int) : Value := match enoughM l s 0 with
  | none => .tuple #[.int .i64 0, .bool false]
  | some n => .tuple #[.int .i64 n, .bool true]
def EnoughPost (w : World) (l : List Int) (s : Int) (e : Ending) (w' : World) : Prop := ∃ r, e = .returned (enoughV r s) ∧ FallOf l r ∧ Below w.heap.size w w'
set_option maxRecDepth 100000 in
set_option maxHeartbeats 8000000 in
theorem enough_any (a : Option Addr) (l : List Int) (c : Nat) (s : Int) (w : World) (hv : IntsV w a l) (hl : l.length ≤ 1000) (hs : 0 ≤ s ∧ s ≤ 1000000000) (hb : ∀ x ∈ l, 0 ≤ x ∧ x ≤ 1000000) :
    Calls Try.prog 20 #[.slice a l.length c, .int .i64 s] w (EnoughPost w l s) := by
  have HV := Lib.hid hv
  clear hv
  go_enter Try.func20, Try.ntmps20
  go_upto_region 2 with (go_at_call 33; refine (falling_any _ l c _ HV.out hl).mono ?_; rintro e w1 ⟨v, r, rfl, hf, ho, hb⟩; have HF := Lib.hid hf; have HO1 := Lib.hid ho; have HB1 := Lib.hid hb; clear ho hb hf)
  obtain ⟨av, cv, rfl, -, -⟩ := own_slice HO1.out
  have HR := Lib.hid (show ∀ x ∈ r, 0 ≤ x ∧ x ≤ 1000000 from fun x hx => hb x (HF.out.1.mem_iff.1 hx))
  obtain ⟨N, hN⟩ : ∃ N, N = l.length := ⟨_, rfl⟩
  have hrN : r.length = N := by rw [HF.out.1.length_eq, hN]
  rw [← hN] at HO1 hl ⊢
  clear hN hb
  subst hrN
  obtain ⟨s0, hs0⟩ : ∃ s0, s0 = s := ⟨_, rfl⟩
  have HE := Lib.hid (show enoughM r s 0 = enoughM (r.drop 0) s 0 from rfl)
  go_wp2_with fail
  go_loopw [1, 6] (fun sv nv wr => ∃ (t : Int) (n : Nat), n ≤ r.length ∧ sv = .int .i64 t ∧ nv = .int .i64 n ∧ (-1000000000 ≤ t ∧ t ≤ 1000000000) ∧ Hid (enoughM r s 0 = enoughM (r.drop n) t n) ∧ Below w1.heap.size w1 wr) (fun _ nv _ => r.length - (intOf nv).toNat)
  case atStart => exact ⟨s, 0, Nat.zero_le _, rfl, rfl, by omega, HE, Below.refl _ _⟩
  case round =>
    obtain ⟨t, n, hn, rfl, rfl, ht, HE1, hbr⟩ := hrel
    have HBR := Lib.hid hbr
    clear hbr
    have HWW := Lib.hid (HB1.out.trans (HBR.out.mono HB1.out.size))
    by_cases h1 : t > 0
    · by_cases hlt : n < r.length
      · have hii : (n : Int) < (r.length : Int) := by omega
        have hne : ¬ (n : Int) = (r.length : Int) := by omega
        have v1 : IntKind.i64.wrap ((n : Int) + 1) = (n : Int) + 1 := IntWalk.i64_in _ (by omega)
        have hx := HR.out _ (List.getElem_mem hlt)
        have HEN := Lib.hid (show enoughM r s 0 = enoughM (r.drop (n + 1)) (t - r[n]) (n + 1) by rw [HE1.out, List.drop_eq_getElem_cons hlt, enoughM, if_pos h1])
        obtain ⟨g, cp, hgv, hg1, hg2⟩ := own_some HO1.out (by omega)
        injection hgv with e1 _ e3
        subst e1; subst e3
        have hc := cell_keep HBR.out (own_int_cell HO1.out hlt).1
        generalize r[n] = x at *
        have v2 : IntKind.i64.wrap (t - x) = t - x := IntWalk.i64_in _ (by omega)
        go_wp2_with fail
        go_roundw
        case rel => exact ⟨t - x, n + 1, by omega, rfl, by go_num, by omega, HEN, HBR.out⟩
        case measure => first | (simp [intOf]; done) | (simp [intOf]; omega)
      · obtain rfl : n = r.length := by omega
        have HN := Lib.hid (show enoughM r s 0 = none by rw [HE1.out, List.drop_length, enoughM, if_pos h1])
        go_wp2_with fail
        go_ret2
        exact ⟨r, by unfold enoughV; rw [HN.out]; rfl, HF.out, HWW.out⟩
    · have HN := Lib.hid (show enoughM r s 0 = some n by rw [HE1.out]; cases r.drop n <;> (rw [enoughM, if_neg h1]))
      go_wp2_with fail
      go_ret2
      exact ⟨r, by unfold enoughV; rw [HN.out]; rfl, HF.out, HWW.out⟩
end Go.Proofs.Ytoelfalmmaddlaa
