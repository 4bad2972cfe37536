/- SolidVolumes returns true for every input: the volume is that of the document, and what is left and what two solids share make up the whole. No condition. -/
import Derived.Test.YtbhgkadklklmbaaGreatQV2
import Derived.Test.YtbhgkadklklmbaaGreatM8
import Derived.Test.YtbhgkadklklmbaaGreatQP
import Derived.Test.YtbhgkadklklmbaaGreatQS
import Derived.Test.YtbhgkadklklmbaaGreatQO
import Derived.Test.YtbhgkadklklmbaaGreatQM
import Derived.Test.YtbhgkadklklmbaaGreatFactsSolidVolumes
set_option linter.unusedVariables false
set_option linter.unusedSimpArgs false
namespace Go.Proofs.YtbhgkadklklmbaaGreat
open Go Go.ChangeShapes Go.WideShapes Go.ChangeAt Go.RowKit Go.Sort Go.Lib

theorem few_3 {cs : List Cell} {m : Int} (h : fewB cs m = true) (hl : cs.length ≤ 100) : (cs.length : Int) ≤ m := by
 unfold fewB at h
 simp only [Bool.and_eq_true, Bool.not_eq_true', Bool.or_eq_false_iff, Bool.and_eq_false_iff, decide_eq_false_iff_not] at h
 omega
theorem volB_bd {bs : List Box6} (hok : ∀ b ∈ bs, b.ok) : 0 ≤ volB bs ∧ volB bs ≤ 216000000000000000 := by
 have h := volI_vol hok (uniq_asc (marksX bs)) (fun z => uniq_mem) (uniq_asc (marksY bs)) (fun z => uniq_mem)
 rw [← h]
 by_cases hx : 1 ≤ (uniq (marksX bs)).length
 ·have hy : 1 ≤ (uniq (marksY bs)).length := by
    obtain ⟨z, hz⟩ := List.exists_mem_of_ne_nil _ (List.ne_nil_of_length_pos (show 0 < (uniq (marksX bs)).length by omega))
    obtain ⟨b, hb, -⟩ := List.mem_flatMap.1 (uniq_mem.1 hz)
    exact List.length_pos_iff.2 (List.ne_nil_of_mem (uniq_mem.2 (List.mem_flatMap.2 ⟨b, hb, List.mem_cons_self⟩)))
  exact volI_le (uniq_asc _) (fun z hz => (marks_bd hok).1 z (uniq_mem.1 hz)) (uniq_asc _) (fun z hz => (marks_bd hok).2.1 z (uniq_mem.1 hz)) hy (fun x y => hgt_bd _) (by omega)
 ·have e : (uniq (marksX bs)).length - 1 = 0 := by omega
  rw [e]
  exact ⟨Int.le_refl _, by unfold volI; omega⟩
theorem volV_bd {A : List Cell} : 0 ≤ volV A ∧ volV A ≤ 216000000000000000 := by
 by_cases h : volE A = 0
 ·have h0 : solE A = 0 := by
    unfold volE at h
    split at h
    ·rename_i h1; exact absurd h h1
    ·rename_i h1; simpa using h1
  unfold volV
  rw [if_pos h]
  refine volB_bd fun b hb => ?_
  obtain ⟨c, hc, rfl⟩ := List.mem_map.1 hb
  exact (vol_box h0 h c hc).fit.ok
 ·unfold volV; rw [if_neg h]; omega
set_option maxRecDepth 100000 in
set_option maxHeartbeats 32000000 in
theorem walkSolidVolumes (a : Solid) (aa : Option Addr) (ac : Nat) (b : Solid) (ba : Option Addr) (bc : Nat) (w : World) (Va : Cells.V w aa a.cells) (La : a.cells.length ≤ 9223372036854775807) (Ca : a.cells.length ≤ ac) (Vb : Cells.V w ba b.cells) (Lb : b.cells.length ≤ 9223372036854775807) (Cb : b.cells.length ≤ bc) :
    Calls Tryz.prog 7 #[.agg #[.slice aa a.cells.length ac], .agg #[.slice ba b.cells.length bc]] w fun e w' => e = .returned (.bool true) ∧ Below w.heap.size w w' := by
 have hmix : Tryz.prog.follows .mixedOrders = true := by kernel_rfl
 obtain ⟨A, hA⟩ : ∃ cs, cs = a.cells := ⟨_, rfl⟩
 obtain ⟨B, hB⟩ : ∃ cs, cs = b.cells := ⟨_, rfl⟩
 rw [← hA] at Va La Ca ⊢
 rw [← hB] at Vb Lb Cb ⊢
 clear hA hB
 have HVA := Lib.hid Va
 have HVB := Lib.hid Vb
 have HAW := Lib.hid awake_any
 have HF1 := Lib.hid (fun W (h : Below w.heap.size w W) => few_any A aa ac 3 W La (Va.keep h) (cells_len Va))
 have HF2 := Lib.hid (fun W (h : Below w.heap.size w W) => few_any B ba bc 3 W Lb (Vb.keep h) (cells_len Vb))
 clear Va Vb
 go_enter Tryz.func7, Tryz.ntmps7
 go_upto_region 1 with fail
 refine gen_world (fun W => W.cell? ⟨w.heap.size, 0, none⟩ = some (.slice aa A.length ac) ∧ W.cell? ⟨w.heap.size + 1, 0, none⟩ = some (.slice ba B.length bc) ∧ Below w.heap.size w W) ⟨by simp [go_sem], by simp [go_sem], by repeat (first | (with_reducible assumption) | exact Below.refl _ _ | (refine Below.setCell ?_ (by first | omega | (simp; omega) | (simp; done)) _) | (refine Below.alloc ?_ (by first | omega | (simp; omega) | (simp; done)) _) | (refine Below.drew ?_))⟩ ?_
 rintro W ⟨a0, b0, hb⟩
 have HB0 := Lib.hid hb
 clear hb
 obtain ⟨gw, hgw⟩ : ∃ g, g = w.heap.size := ⟨_, rfl⟩
 rw [← hgw] at a0 b0 ⊢
 clear hgw
 go_upto_region 3 with (go_at_call 18; refine (HAW.out _).mono ?_; rintro e w1 ⟨rfl, hb⟩; (have a0 := cell_keep hb a0; have b0 := cell_keep hb b0); have HB1 := Lib.hid (HB0.out.trans (hb.mono HB0.out.size)); clear hb)
 by_cases h1 : fewB A 3 = true
 ·have hla := few_len (by decide) h1
  have HPA := Lib.hid (few_pl h1)
  have HA3 := Lib.hid (few_3 h1)
  rw [h1] at HF1
  clear h1
  by_cases h2 : fewB B 3 = true
  ·have hlb := few_len (by decide) h2
   have HPB := Lib.hid (few_pl h2)
   have HB3L := Lib.hid (few_3 h2)
   rw [h2] at HF2
   clear h2
   have HC1 := Lib.hid (fun W (h : Below w.heap.size w W) => copySolid_any A aa ac W (by omega) (HVA.out.keep h) (fun x hx => by have := HPA.out x hx; omega))
   have HVL := Lib.hid (fun W ua un (h : Cells.V W ua A) => volume_any A ua un W (by omega) h (fun x hx => by have := HPA.out x hx; omega))
   have HKA := Lib.hid (fun W (h : Below w.heap.size w W) => checkR_any A aa ac W (by omega) (HVA.out.keep h) (fun x hx => by have := HPA.out x hx; omega))
   have HKB := Lib.hid (fun W (h : Below w.heap.size w W) => checkR_any B ba bc W (by omega) (HVB.out.keep h) (fun x hx => by have := HPB.out x hx; omega))
   have HBD := Lib.hid (volV_bd (A := A))
   go_upto_region 5 with (first | (have h := HF1.out; clear HF1; go_at_call 32; refine (h _ HB1.out).mono ?_; clear h; rintro e w2 ⟨rfl, hb⟩; (have a0 := cell_keep hb a0; have b0 := cell_keep hb b0); have HB2 := Lib.hid (HB1.out.trans (hb.mono HB1.out.size)); clear hb) | (have h := HF2.out; clear HF2; go_at_call 32; refine (h _ HB2.out).mono ?_; clear h; rintro e w3 ⟨rfl, hb⟩; (have a0 := cell_keep hb a0; have b0 := cell_keep hb b0); have HB3 := Lib.hid (HB2.out.trans (hb.mono HB2.out.size)); clear hb))
   go_upto_region 6 with (first
    | (go_at_call 34; refine (HC1.out _ HB3.out).mono ?_; rintro e w4 ⟨ua, un, rfl, hcv, -, hb⟩; (have a0 := cell_keep hb a0; have b0 := cell_keep hb b0); have HXA := Lib.hid hcv; have HB4 := Lib.hid (HB3.out.trans (hb.mono HB3.out.size)); clear hcv hb)
    | (go_at_call 42; refine (HVL.out _ _ _ HXA.out).mono ?_; rintro e w5 ⟨rfl, hb⟩; (have a0 := cell_keep hb a0; have b0 := cell_keep hb b0); have HB5 := Lib.hid (HB4.out.trans (hb.mono HB4.out.size)); clear hb))
   clear HC1 HVL HXA
   by_cases ha0 : solE A = 0
   ·rw [ha0] at HKA
    have hla3 := HA3.out (solE_zero.1 ha0).1
    have HR1 := Lib.hid (fun W (h : Below w.heap.size w W) => volumeR_any A aa ac W (HVA.out.keep h) ha0)
    go_upto_region 9 with (have h := HKA.out; clear HKA; go_at_call 43; refine (h _ HB5.out).mono ?_; clear h; rintro e w6 ⟨rfl, hb⟩; (have a0 := cell_keep hb a0; have b0 := cell_keep hb b0); have HB6 := Lib.hid (HB5.out.trans (hb.mono HB5.out.size)); clear hb)
    have e1 : (volE A != volE A) = false := by simp
    have e2 : (volV A != volV A) = false := by simp
    by_cases hva : volE A = 0
    ·have HVE := Lib.hid hva
     have HVF := Lib.hid (fun h0 hb hl => vol_facts (A := A) (B := B) h0 hva hb (by omega) hl)
     rw [hva] at HR1 ⊢
     clear e1 hva
     by_cases hb0 : solE B = 0
     ·rw [hb0] at HKB
      have hlb3 := HB3L.out (solE_zero.1 hb0).1
      have ht : twoE A B = 0 := twoE_zero.2 ⟨ha0, hb0⟩
      have HR2 := Lib.hid (fun W (h : Below w.heap.size w W) => volumeR_any B ba bc W (HVB.out.keep h) hb0)
      go_upto_region 14 with (first
       | (have h := HR1.out; clear HR1; go_at_call 44; refine (h _ HB6.out).mono ?_; clear h; rintro e w7 ⟨rfl, hb⟩; (have a0 := cell_keep hb a0; have b0 := cell_keep hb b0); have HB7 := Lib.hid (HB6.out.trans (hb.mono HB6.out.size)); clear hb)
       | (have h := HKB.out; clear HKB; go_at_call 43; refine (h _ HB7.out).mono ?_; clear h; rintro e w8 ⟨rfl, hb⟩; (have a0 := cell_keep hb a0; have b0 := cell_keep hb b0); have HB8 := Lib.hid (HB7.out.trans (hb.mono HB7.out.size)); clear hb))
      by_cases hvb : volE B = 0
      ·have hF := HVF.out ht hvb (by omega)
       rw [hvb] at HR2
       have HCM := Lib.hid (fun W (h : Below w.heap.size w W) => meet_any A B aa ac ba bc W (by omega) (HVA.out.keep h) (fun x hx => by have := HPA.out x hx; omega) (by omega) (HVB.out.keep h) (fun x hx => by have := HPB.out x hx; omega))
       have HCL := Lib.hid (fun W (h : Below w.heap.size w W) => minusC_any A B aa ac ba bc W (by omega) (HVA.out.keep h) (fun x hx => by have := HPA.out x hx; omega) (by omega) (HVB.out.keep h) (fun x hx => by have := HPB.out x hx; omega))
       have hlm5 : (bothV A B).length = ((bothV A B).map Cell.mk).length := by simp
       have hlm7 : (leftV A B).length = ((leftV A B).map Cell.mk).length := by simp
       rw [hlm5, hF.bo] at HCM
       rw [hlm7] at HCL
       have HV1 := Lib.hid (fun W ua un (h : Cells.V W ua ((leftV A B).map Cell.mk)) => volume_any ((leftV A B).map Cell.mk) ua un W (by rw [← hlm7]; have := hF.ll; omega) h (fun x hx => by obtain ⟨q, hq, rfl⟩ := List.mem_map.1 hx; have := (readE_zero.1 (left_valid q hq)).1; show q.length ≤ 1000000; omega))
       have HV2 := Lib.hid (fun W ua un (h : Cells.V W ua ((bothV A B).map Cell.mk)) => volume_any ((bothV A B).map Cell.mk) ua un W (by rw [← hlm5]; have := hF.bl; omega) h (fun x hx => by obtain ⟨q, hq, rfl⟩ := List.mem_map.1 hx; have := (readE_zero.1 (both_val q hq)).1; show q.length ≤ 1000000; omega))
       rw [hF.be] at HV2
       have HL8 := Lib.hid hF.l8
       clear hF hlm5 hlm7 HVF hvb ht
       generalize (bothV A B).map Cell.mk = MV at *
       generalize (leftV A B).map Cell.mk = LV at *
       generalize minE A B = E9 at *
       have h2 := HR2.out
       clear HR2
       have HR2 := Lib.hid h2
       clear h2
       go_upto_region 17 with (go_at_call 44; refine (HR2.out _ HB8.out).mono ?_; rintro e w9 ⟨rfl, hb⟩; (have a0 := cell_keep hb a0; have b0 := cell_keep hb b0); have HB9 := Lib.hid (HB8.out.trans (hb.mono HB8.out.size)); clear hb)
       go_upto_region 18 with (go_at_call 45; refine (HCL.out _ HB9.out).mono ?_; rintro e w10 ⟨la, lc, rfl, hcv, hb⟩; (have a0 := cell_keep hb a0; have b0 := cell_keep hb b0); have HLV := Lib.hid hcv; have HB10 := Lib.hid (HB9.out.trans (hb.mono HB9.out.size)); clear hb hcv)
       refine gen_world (fun W => W.cell? ⟨w10.heap.size, 0, none⟩ = some (.slice la LV.length lc) ∧ Below w10.heap.size w10 W) ⟨by simp [go_sem], by repeat (first | (with_reducible assumption) | exact Below.refl _ _ | (refine Below.setCell ?_ (by first | omega | (simp; omega) | (simp; done)) _) | (refine Below.alloc ?_ (by first | omega | (simp; omega) | (simp; done)) _) | (refine Below.drew ?_))⟩ ?_
       rintro W10 ⟨l0, hb⟩
       (have a0 := cell_keep hb a0; have b0 := cell_keep hb b0)
       have HLV := Lib.hid (HLV.out.keep hb)
       have HB10 := Lib.hid (HB10.out.trans (hb.mono HB10.out.size))
       clear hb
       generalize w10.heap.size = g10 at *
       go_upto_region 19 with (go_at_call 46; refine (HCM.out _ HB10.out).mono ?_; rintro e w11 ⟨ma, mc, rfl, hcv, hb⟩; have l0 := cell_keep hb l0; have HLV := Lib.hid (HLV.out.keep hb); have HMV := Lib.hid hcv; have HB11 := Lib.hid (HB10.out.trans (hb.mono HB10.out.size)); clear hb hcv)
       refine gen_world (fun W => W.cell? ⟨w11.heap.size, 0, none⟩ = some (.slice ma MV.length mc) ∧ Below w11.heap.size w11 W) ⟨by simp [go_sem], by repeat (first | (with_reducible assumption) | exact Below.refl _ _ | (refine Below.setCell ?_ (by first | omega | (simp; omega) | (simp; done)) _) | (refine Below.alloc ?_ (by first | omega | (simp; omega) | (simp; done)) _) | (refine Below.drew ?_))⟩ ?_
       rintro W11 ⟨m0, hb⟩
       have l0 := cell_keep hb l0
       have HLV := Lib.hid (HLV.out.keep hb)
       have HMV := Lib.hid (HMV.out.keep hb)
       have HB11 := Lib.hid (HB11.out.trans (hb.mono HB11.out.size))
       clear hb
       generalize w11.heap.size = g11 at *
       by_cases h8 : E9 = 8
       ·subst h8
        go_wp2_with fail
        go_ret
        exact ⟨rfl, HB11.out⟩
       ·have h8b : (E9 == 8) = false := by simpa using h8
        obtain ⟨h9, hve, hsum⟩ := HL8.out.resolve_left h8
        subst h9
        rw [hve] at HV1
        have bd := HBD.out
        have p1 : IntKind.i64.wrap (volV LV + volV MV) = volV A := by rw [hsum]; exact IntWalk.i64_in _ (by omega)
        have p2 : (volV A == volV A) = true := by simp
        clear hsum bd hve h8
        generalize volV LV = vl at *
        generalize volV MV = vm at *
        generalize volV A = va at *
        go_wp2_with (first
         | (have h := HV1.out; clear HV1; go_at_call 42; refine (h _ _ _ HLV.out).mono ?_; clear h; rintro e w12 ⟨rfl, hb⟩; have m0 := cell_keep hb m0; have HMV := Lib.hid (HMV.out.keep hb); have HB12 := Lib.hid (HB11.out.trans (hb.mono HB11.out.size)); clear hb)
         | (have h := HV2.out; clear HV2; go_at_call 42; refine (h _ _ _ HMV.out).mono ?_; clear h; rintro e w13 ⟨rfl, hb⟩; have HB13 := Lib.hid (HB12.out.trans (hb.mono HB12.out.size)); clear hb))
        go_ret
        exact ⟨rfl, HB13.out⟩
      ·have hvbb : (volE B != 0) = true := by simpa using hvb
       clear hvb
       generalize volE B = EB at *
       go_wp2_with (go_at_call 44; refine (HR2.out _ HB8.out).mono ?_; rintro e w9 ⟨rfl, hb⟩; have HB9 := Lib.hid (HB8.out.trans (hb.mono HB8.out.size)); clear hb)
       go_ret
       exact ⟨rfl, HB9.out⟩
     ·have hb0b : (solE B != 0) = true := by simpa using hb0
      clear hb0
      generalize solE B = SB at *
      go_wp2_with (first
       | (have h := HR1.out; clear HR1; go_at_call 44; refine (h _ HB6.out).mono ?_; clear h; rintro e w7 ⟨rfl, hb⟩; (have a0 := cell_keep hb a0; have b0 := cell_keep hb b0); have HB7 := Lib.hid (HB6.out.trans (hb.mono HB6.out.size)); clear hb)
       | (have h := HKB.out; clear HKB; go_at_call 43; refine (h _ HB7.out).mono ?_; clear h; rintro e w8 ⟨rfl, hb⟩; (have a0 := cell_keep hb a0; have b0 := cell_keep hb b0); have HB8 := Lib.hid (HB7.out.trans (hb.mono HB7.out.size)); clear hb))
      go_ret
      exact ⟨rfl, HB8.out⟩
    ·have hvab : (volE A != 0) = true := by simpa using hva
     clear hva
     generalize volE A = EA at *
     generalize volV A = VA at *
     go_wp2_with (go_at_call 44; refine (HR1.out _ HB6.out).mono ?_; rintro e w7 ⟨rfl, hb⟩; (have a0 := cell_keep hb a0; have b0 := cell_keep hb b0); have HB7 := Lib.hid (HB6.out.trans (hb.mono HB6.out.size)); clear hb)
     go_ret
     exact ⟨rfl, HB7.out⟩
   ·have e1 : volE A = solE A := by unfold volE; rw [if_pos ha0]
    have e2 : volV A = 0 := by unfold volV; rw [if_neg (by rw [e1]; exact ha0)]
    have e3 : (solE A != 0) = true := by simpa using ha0
    have e4 : (solE A == solE A) = true := by simp
    rw [e1, e2]
    clear e1 e2 ha0 HBD
    generalize solE A = SA at *
    go_wp2_with (have h := HKA.out; clear HKA; go_at_call 43; refine (h _ HB5.out).mono ?_; clear h; rintro e w6 ⟨rfl, hb⟩; (have a0 := cell_keep hb a0; have b0 := cell_keep hb b0); have HB6 := Lib.hid (HB5.out.trans (hb.mono HB5.out.size)); clear hb)
    go_ret
    exact ⟨rfl, HB6.out⟩
  ·have h2' : fewB B 3 = false := by simpa using h2
   rw [h2'] at HF2
   clear h2 h2'
   go_wp2_with (first | (have h := HF1.out; clear HF1; go_at_call 32; refine (h _ HB1.out).mono ?_; clear h; rintro e w2 ⟨rfl, hb⟩; (have a0 := cell_keep hb a0; have b0 := cell_keep hb b0); have HB2 := Lib.hid (HB1.out.trans (hb.mono HB1.out.size)); clear hb) | (have h := HF2.out; clear HF2; go_at_call 32; refine (h _ HB2.out).mono ?_; clear h; rintro e w3 ⟨rfl, hb⟩; (have a0 := cell_keep hb a0; have b0 := cell_keep hb b0); have HB3 := Lib.hid (HB2.out.trans (hb.mono HB2.out.size)); clear hb))
   go_ret
   exact ⟨rfl, HB3.out⟩
 ·have h1' : fewB A 3 = false := by simpa using h1
  rw [h1'] at HF1
  clear h1 h1'
  go_wp2_with (have h := HF1.out; clear HF1; go_at_call 32; refine (h _ HB1.out).mono ?_; clear h; rintro e w2 ⟨rfl, hb⟩; (have a0 := cell_keep hb a0; have b0 := cell_keep hb b0); have HB2 := Lib.hid (HB1.out.trans (hb.mono HB1.out.size)); clear hb)
  go_ret
  exact ⟨rfl, HB2.out⟩
set_option maxRecDepth 100000 in
theorem solidVolumes_walks : Walks 7 Tryz.f7 := by
 intro H enc W base args ds p hval hA hlt
 rw [Tryz.params7] at hA hval
 obtain ⟨v0, vs0, d0, ds0, p0, q0, hargs, rfl, rfl, ⟨fu0, hf0⟩, r0⟩ := trodAll_cons hA
 obtain ⟨v1, vs1, d1, ds1, p1, q1, rfl, rfl, rfl, ⟨fu1, hf1⟩, r1⟩ := trodAll_cons r0
 obtain ⟨rfl, rfl, rfl⟩ := trodAll_nil r1
 obtain rfl : args = #[v0, v1] := by cases args; simp_all
 obtain ⟨cs0, rfl, -⟩ := okWide_struct Tryz.underlying48 (hval 0 48 v0 rfl rfl)
 obtain ⟨x0, a0, c0, hc0, V0, C0, M0, -⟩ := Solid.open_ hf0
 have hd0 : cs0 = #[.slice a0 x0.cells.length c0] := by
  cases cs0; simpa [Value.cells] using hc0
 subst hd0
 obtain ⟨cs1, rfl, -⟩ := okWide_struct Tryz.underlying48 (hval 1 48 v1 rfl rfl)
 obtain ⟨x1, a1, c1, hc1, V1, C1, M1, -⟩ := Solid.open_ hf1
 have hd1 : cs1 = #[.slice a1 x1.cells.length c1] := by
  cases cs1; simpa [Value.cells] using hc1
 subst hd1
 exact walkSolidVolumes x0 a0 c0 x1 a1 c1 W V0 (by unfold maxLen at M0; omega) C0 V1 (by unfold maxLen at M1; omega) C1

set_option maxRecDepth 100000 in
theorem solidVolumes_holds : Rows.SolidVolumesSaid :=
 law_holds (s := Rows.solidVolumesSpec) (c := Rows.solidVolumesRow) 7 Tryz.f7 rfl
  (fun H ds h => by match ds, h with | [_, _], _ => rfl) (by kernel_rfl) (by kernel_rfl)
  rfl rfl rfl rfl rfl rfl rfl ⟨rfl, rfl, rfl, rfl, rfl⟩ rfl rfl rfl rfl rfl rfl rfl rfl rfl rfl (fun _ _ => rfl) (by kernel_rfl) Tryz.func7
  solidVolumes_closed (of_decide_eq_true (by kernel_rfl)) (by unfold Func.isWrapper; first | (rw [if_pos (by decide +kernel)]; kernel_rfl) | (rw [if_neg (by decide +kernel)]; exact ⟨rfl, rfl⟩)) (by kernel_rfl)
  (fun H enc os => ChangeSpec.witness6 (enc := enc) (C := Tryz.checked) false ⟨#[], #[.agg #[.slice none 0 0], .agg #[.slice none 0 0]], []⟩ 8 (by kernel_rfl) (by kernel_rfl) (by kernel_rfl) (by kernel_rfl))
  solidVolumes_walks
end Go.Proofs.YtbhgkadklklmbaaGreat
