/- The bound of bars, of the document's side. -/
import Derived.Test.YtoelfalmmaddlaaBW4
set_option linter.unusedVariables false
set_option linter.unusedSimpArgs false
namespace Go.Proofs.Ytoelfalmmaddlaa
open Go Go.RowKit Go.Sort Go.Lib

def LeastPost (w : World) (st ln : List Int) (kerf : Int) (e : Ending) (w' : World) : Prop := ∃ r, e = .returned (enoughV r ((ln.map (· + kerf)).sum)) ∧ FallOf (st.map (· + kerf)) r ∧ Below w.heap.size w w'
theorem sum_take {ln : List Int} {kerf : Int} {i : Nat} (h : i < ln.length) : ((ln.take (i + 1)).map (· + kerf)).sum = ((ln.take i).map (· + kerf)).sum + ln[i] + kerf := by
  rw [List.take_succ_eq_append_getElem h, List.map_append, List.sum_append]
  simp; omega
theorem sum_bd {kerf : Int} (hk : 0 ≤ kerf ∧ kerf ≤ 10000) : ∀ {ln : List Int}, (∀ m ∈ ln, 0 ≤ m ∧ m ≤ 600000) → 0 ≤ (ln.map (· + kerf)).sum ∧ (ln.map (· + kerf)).sum ≤ 610000 * ln.length
  | [], _ => by simp
  | m :: ln, h => by
    have h1 := sum_bd hk (fun x hx => h x (List.mem_cons_of_mem _ hx)) (ln := ln)
    have h2 := h m List.mem_cons_self
    simp only [List.map_cons, List.sum_cons, List.length_cons]
    omega
theorem enoughV_two (r : List Int) (S : Int) : ∃ n b, enoughV r S = .tuple #[.int .i64 n, .bool b] := by
  unfold enoughV; split
  · exact ⟨_, _, rfl⟩
  · exact ⟨_, _, rfl⟩
theorem own_intsV' {w : World} {base e n cv : Nat} {av : Option Addr} {l : List Int} (h : w.ownsRow base e 1 (.slice av n cv) n (l.map (Value.int .i64))) : IntsV w av l := by
  intro hne
  have hn : l.length = n := by have := h.1; simpa using this
  obtain ⟨g, cp, hv, -, -⟩ := own_some h (by have := List.length_pos_iff.2 hne; omega)
  injection hv with e1 _ e3
  subst e1; subst e3
  exact own_intsV1 h hne
set_option maxRecDepth 100000 in
set_option maxHeartbeats 8000000 in
theorem least_any (a1 a2 : Option Addr) (st ln : List Int) (c1 c2 : Nat) (kerf : Int) (w : World) (hv1 : IntsV w a1 st) (hv2 : IntsV w a2 ln) (hl1 : st.length ≤ 1000) (hl2 : ln.length ≤ 1000) (hst : ∀ m ∈ st, 0 ≤ m ∧ m ≤ 600000) (hln : ∀ m ∈ ln, 0 ≤ m ∧ m ≤ 600000) (hk : 0 ≤ kerf ∧ kerf ≤ 10000) :
    Calls Try.prog 8 #[.agg #[.slice a1 st.length c1, .slice a2 ln.length c2, .int .i64 kerf]] w (LeastPost w st ln kerf) := by
  have HV1 := Lib.hid hv1
  have HV2 := Lib.hid hv2
  have HST := Lib.hid hst
  have HLN := Lib.hid hln
  have HL1 := Lib.hid hl1
  clear hv1 hv2 hst hln hl1
  go_enter Try.func8, Try.ntmps8
  go_upto_region 1 with fail
  refine gen_world (fun W => CB W w.heap.size a1 st.length c1 a2 ln.length c2 kerf ∧ Below w.heap.size w W ∧ w.heap.size < W.heap.size) ⟨⟨by simp [go_sem], by simp [go_sem], by simp [go_sem]⟩, by repeat (first | (with_reducible assumption) | exact Below.refl _ _ | (refine Below.setCell ?_ (by first | omega | (simp; omega) | (simp; done)) _) | (refine Below.alloc ?_ (by first | omega | (simp; omega) | (simp; done)) _) | (refine Below.drew ?_)), by simp⟩ ?_
  rintro W ⟨hC, hbW, hz⟩
  obtain ⟨gj, hgj⟩ : ∃ g, g = w.heap.size := ⟨_, rfl⟩
  have hzj : gj < W.heap.size := by omega
  rw [← hgj] at hC ⊢
  have HC := Lib.hid hC
  have HBW := Lib.hid hbW
  clear hbW hz hgj hC
  go_wp2_with fail
  go_loopw [4, 5] (fun sv iv wr => ∃ i : Nat, i ≤ ln.length ∧ iv = .int .i64 i ∧ sv = .int .i64 ((ln.take i).map (· + kerf)).sum ∧ Below W.heap.size W wr) (fun _ iv _ => ln.length - (intOf iv).toNat)
  case atStart => exact ⟨0, Nat.zero_le _, rfl, rfl, Below.refl _ _⟩
  case round =>
    obtain ⟨i, hi, rfl, rfl, hbr⟩ := hrel
    have HBR := Lib.hid hbr
    obtain ⟨q0, q1, q2⟩ := HC.out.keep hbr
    have HWW := Lib.hid (HBW.out.trans (hbr.mono HBW.out.size))
    clear hbr
    by_cases hlt : i < ln.length
    · have hii : (i : Int) < (ln.length : Int) := by omega
      have v1 : IntKind.i64.wrap ((i : Int) + 1) = (i : Int) + 1 := IntWalk.i64_in _ (by omega)
      have HS := Lib.hid (sum_take (kerf := kerf) hlt)
      have hm := HLN.out _ (List.getElem_mem hlt)
      have hsb := sum_bd hk (ln := ln.take i) (fun m hm => HLN.out m (List.mem_of_mem_take hm))
      have hsl : (ln.take i).length ≤ 1000 := by rw [List.length_take]; omega
      obtain ⟨b, o, ha, hx⟩ := HV2.out (by intro e; subst e; simp at hlt)
      subst ha
      have hc := cell_keep HWW.out (hx i _ (List.getElem?_eq_getElem hlt))
      clear hx
      generalize ln[i] = m at *
      generalize ((ln.take i).map (· + kerf)).sum = s at *
      have v2 : IntKind.i64.wrap (s + m) = s + m := IntWalk.i64_in _ (by omega)
      have v3 : IntKind.i64.wrap (s + m + kerf) = s + m + kerf := IntWalk.i64_in _ (by omega)
      clear hsb hsl
      go_wp2_with fail
      go_quiet (fail)
      rename_i nq
      go_wp2_with fail
      go_roundw
      case rel => exact ⟨i + 1, by omega, by go_num, by rw [HS.out], below_drewN HBR.out nq⟩
      case measure => first | (simp [intOf]; done) | (simp [intOf]; omega)
    · obtain rfl : i = ln.length := by omega
      have hii : ¬ (ln.length : Int) < (ln.length : Int) := by omega
      rw [List.take_length]
      obtain ⟨L, hL⟩ : ∃ L, L = st.map (· + kerf) := ⟨_, rfl⟩
      obtain ⟨S, hS⟩ : ∃ S, S = (ln.map (· + kerf)).sum := ⟨_, rfl⟩
      have hsb := sum_bd hk (ln := ln) (fun m hm => HLN.out m hm)
      have HSB := Lib.hid (show 0 ≤ S ∧ S ≤ 1000000000 by rw [hS]; omega)
      have HLE := Lib.hid (show L.length ≤ 1000 ∧ ∀ x ∈ L, 0 ≤ x ∧ x ≤ 1000000 by
        rw [hL]
        refine ⟨by rw [List.length_map]; exact HL1.out, fun x hx => ?_⟩
        obtain ⟨m, hm, rfl⟩ := List.mem_map.1 hx
        have := HST.out m hm
        omega)
      have HRO := Lib.hid (rooms_any a1 a2 st ln c1 c2 kerf wr (intsV_keep HV1.out HWW.out) HL1.out HST.out hk)
      rw [← hL] at HRO
      rw [← hS]
      have HP := Lib.hid (show ∀ (r : List Int) (w' : World), FallOf L r → Below w.heap.size w w' → LeastPost w st ln kerf (.returned (enoughV r S)) w' from fun r w' h1 h2 => ⟨r, by rw [hS], by rw [← hL]; exact h1, h2⟩)
      clear hL hS hsb
      go_wp2_with (first
        | (go_at_call 10; refine HRO.out.mono ?_; rintro e w2 ⟨v, rfl, ho, hb⟩; have HO2 := Lib.hid ho; have HB2 := Lib.hid hb; clear ho hb; obtain ⟨av, cv, rfl, -, -⟩ := own_slice HO2.out)
        | (go_at_call 20; refine (enough_any av L cv S _ (own_intsV' HO2.out) HLE.out.1 HSB.out HLE.out.2).mono ?_; rintro e w3 ⟨r, rfl, hf, hb⟩; have HF3 := Lib.hid hf; have HB3 := Lib.hid hb; clear hf hb; obtain ⟨n, b, hnb⟩ := enoughV_two r S; have HNB := Lib.hid hnb; rw [hnb]; clear hnb))
      go_ret2
      have h := HP.out r w3 HF3.out (HWW.out.trans ((HB2.out.trans (HB3.out.mono HB2.out.size)).mono HWW.out.size))
      rw [HNB.out] at h
      exact h
end Go.Proofs.Ytoelfalmmaddlaa
