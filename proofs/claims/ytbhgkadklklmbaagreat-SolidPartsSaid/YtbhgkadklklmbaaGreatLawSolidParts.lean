/- SolidParts returns true for every input: what is left of a solid without another one and what is common to both are the whole of it. No condition. -/
import Derived.Test.YtbhgkadklklmbaaGreatQS
import Derived.Test.YtbhgkadklklmbaaGreatQU
import Derived.Test.YtbhgkadklklmbaaGreatQM
import Derived.Test.YtbhgkadklklmbaaGreatQO
import Derived.Test.YtbhgkadklklmbaaGreatFactsSolidParts
set_option linter.unusedVariables false
set_option linter.unusedSimpArgs false
namespace Go.Proofs.YtbhgkadklklmbaaGreat
open Go Go.ChangeShapes Go.WideShapes Go.ChangeAt Go.RowKit Go.Sort Go.Lib

set_option maxRecDepth 100000 in
set_option maxHeartbeats 16000000 in
theorem walkSolidParts (a : Solid) (aa : Option Addr) (ac : Nat) (b : Solid) (ba : Option Addr) (bc : Nat) (w : World) (Va : Cells.V w aa a.cells) (La : a.cells.length ≤ 9223372036854775807) (Ca : a.cells.length ≤ ac) (Vb : Cells.V w ba b.cells) (Lb : b.cells.length ≤ 9223372036854775807) (Cb : b.cells.length ≤ bc) :
    Calls Tryz.prog 16 #[.agg #[.slice aa a.cells.length ac], .agg #[.slice ba b.cells.length bc]] w fun e w' => e = .returned (.bool true) ∧ Below w.heap.size w w' := by
 obtain ⟨A, hA⟩ : ∃ cs, cs = a.cells := ⟨_, rfl⟩
 obtain ⟨B, hB⟩ : ∃ cs, cs = b.cells := ⟨_, rfl⟩
 rw [← hA] at Va La Ca ⊢
 rw [← hB] at Vb Lb Cb ⊢
 clear hA hB
 have HVA := Lib.hid Va
 have HVB := Lib.hid Vb
 have HAW := Lib.hid awake_any
 have HF1 := Lib.hid (fun W (h : Below w.heap.size w W) => few_any A aa ac 3 W La (Va.keep h) (cells_len Va))
 have HF2 := Lib.hid (fun W (h : Below w.heap.size w W) => few_any B ba bc 3 W Lb (Vb.keep h) (cells_len Vb))
 clear Va Vb
 go_enter Tryz.func16, Tryz.ntmps16
 go_upto_region 1 with fail
 refine gen_world (fun W => W.cell? ⟨w.heap.size, 0, none⟩ = some (.slice aa A.length ac) ∧ W.cell? ⟨w.heap.size + 1, 0, none⟩ = some (.slice ba B.length bc) ∧ Below w.heap.size w W) ⟨by simp [go_sem], by simp [go_sem], by repeat (first | (with_reducible assumption) | exact Below.refl _ _ | (refine Below.setCell ?_ (by first | omega | (simp; omega) | (simp; done)) _) | (refine Below.alloc ?_ (by first | omega | (simp; omega) | (simp; done)) _) | (refine Below.drew ?_))⟩ ?_
 rintro W ⟨a0, b0, hb⟩
 have HB0 := Lib.hid hb
 clear hb
 obtain ⟨gw, hgw⟩ : ∃ g, g = w.heap.size := ⟨_, rfl⟩
 rw [← hgw] at a0 b0 ⊢
 clear hgw
 go_upto_region 3 with (go_at_call 18; refine (HAW.out _).mono ?_; rintro e w1 ⟨rfl, hb⟩; (have a0 := cell_keep hb a0; have b0 := cell_keep hb b0); have HB1 := Lib.hid (HB0.out.trans (hb.mono HB0.out.size)); clear hb)
 by_cases h1 : fewB A 3 = true
 ·have hla := few_len (by decide) h1
  have HPA := Lib.hid (few_pl h1)
  rw [h1] at HF1
  clear h1
  by_cases h2 : fewB B 3 = true
  ·have hlb := few_len (by decide) h2
   have HPB := Lib.hid (few_pl h2)
   rw [h2] at HF2
   clear h2
   have HCT := Lib.hid (fun W (h : Below w.heap.size w W) => checkTwoR_any A B aa ac ba bc W La (HVA.out.keep h) (fun x hx => by have := HPA.out x hx; omega) Lb (HVB.out.keep h) (fun x hx => by have := HPB.out x hx; omega))
   by_cases ht : twoE A B = 0
   ·rw [ht] at HCT
    have HMN := Lib.hid (fun W (h : Below w.heap.size w W) => minusC_any A B aa ac ba bc W (by omega) (HVA.out.keep h) (fun x hx => by have := HPA.out x hx; omega) (by omega) (HVB.out.keep h) (fun x hx => by have := HPB.out x hx; omega))
    have HMT := Lib.hid (fun W (h : Below w.heap.size w W) => meet_any A B aa ac ba bc W (by omega) (HVA.out.keep h) (fun x hx => by have := HPA.out x hx; omega) (by omega) (HVB.out.keep h) (fun x hx => by have := HPB.out x hx; omega))
    obtain ⟨e1, f1⟩ := minE_val ht
    obtain ⟨e2, f2⟩ := bothE_val ht
    rw [e1, f1] at HMN
    rw [e2, f2] at HMT
    clear e1 e2 f1 f2
    cases hl : leftM (B.map (·.planes)) [] (A.map (·.planes)) with
    | none =>
     rw [hl] at HMN
     simp only [Option.getD_none] at HMN
     generalize hV1 : ([] : List (List Pl)) = V1 at HMN
     clear hl hV1
     cases hm : meetM (B.map (·.planes)) [] (A.map (·.planes)) with
     | none =>
      rw [hm] at HMT
      simp only [Option.getD_none] at HMT
      generalize hV2 : ([] : List (List Pl)) = V2 at HMT
      clear hm hV2 ht
      go_upto_region 6 with (first | (have h := HF1.out; clear HF1; go_at_call 32; refine (h _ HB1.out).mono ?_; clear h; rintro e w2 ⟨rfl, hb⟩; (have a0 := cell_keep hb a0; have b0 := cell_keep hb b0); have HB2 := Lib.hid (HB1.out.trans (hb.mono HB1.out.size)); clear hb) | (have h := HF2.out; clear HF2; go_at_call 32; refine (h _ HB2.out).mono ?_; clear h; rintro e w3 ⟨rfl, hb⟩; (have a0 := cell_keep hb a0; have b0 := cell_keep hb b0); have HB3 := Lib.hid (HB2.out.trans (hb.mono HB2.out.size)); clear hb) | (have h := HCT.out; clear HCT; go_at_call 36; refine (h _ HB3.out).mono ?_; clear h; rintro e w4 ⟨rfl, hb⟩; (have a0 := cell_keep hb a0; have b0 := cell_keep hb b0); have HB4 := Lib.hid (HB3.out.trans (hb.mono HB3.out.size)); clear hb) | (have h := HMN.out; clear HMN; go_at_call 45; refine (h _ HB4.out).mono ?_; clear h; rintro e w5 ⟨va, vc, rfl, hcv, hb⟩; (have a0 := cell_keep hb a0; have b0 := cell_keep hb b0); have HCV := Lib.hid hcv; have HB5 := Lib.hid (HB4.out.trans (hb.mono HB4.out.size)); clear hb hcv))
      have hal := (Below.refl w5.heap.size w5).alloc (Nat.le_refl _) (.cells #[.slice va V1.length vc] 48)
      refine gen_world (fun W => Below w5.heap.size w5 W ∧ W.cell? ⟨w5.heap.size, 0, none⟩ = some (.slice va V1.length vc)) ⟨(Below.refl _ _).alloc (Nat.le_refl _) _, by simp [go_sem]⟩ ?_
      rintro W6 ⟨hb, l0⟩
      (have a0 := cell_keep hb a0; have b0 := cell_keep hb b0)
      have HCV := Lib.hid (HCV.out.keep hb)
      have HB6 := Lib.hid (HB5.out.trans (hb.mono HB5.out.size))
      obtain ⟨g5, hg5⟩ : ∃ g, g = w5.heap.size := ⟨_, rfl⟩
      rw [← hg5] at l0 ⊢
      clear hb hal hg5
      go_upto_region 7 with (have h := HMT.out; clear HMT; go_at_call 46; refine (h _ HB6.out).mono ?_; clear h; rintro e w7 ⟨xa, xc, rfl, hcv, hb⟩; (have a0 := cell_keep hb a0; have b0 := cell_keep hb b0); have l0 := cell_keep hb l0; have HCV := Lib.hid (HCV.out.keep hb); have HCX := Lib.hid hcv; have HB7 := Lib.hid (HB6.out.trans (hb.mono HB6.out.size)); clear hb hcv)
      refine gen_world (fun W => Below w7.heap.size w7 W ∧ W.cell? ⟨w7.heap.size, 0, none⟩ = some (.slice xa V2.length xc)) ⟨(Below.refl _ _).alloc (Nat.le_refl _) _, by simp [go_sem]⟩ ?_
      rintro W8 ⟨hb, m0⟩
      (have a0 := cell_keep hb a0; have b0 := cell_keep hb b0)
      have l0 := cell_keep hb l0
      have HCV := Lib.hid (HCV.out.keep hb)
      have HCX := Lib.hid (HCX.out.keep hb)
      have HB8 := Lib.hid (HB7.out.trans (hb.mono HB7.out.size))
      obtain ⟨g7, hg7⟩ : ∃ g, g = w7.heap.size := ⟨_, rfl⟩
      rw [← hg7] at m0 ⊢
      clear hb hg7
      go_wp2_with fail
      go_ret
      exact ⟨rfl, HB8.out⟩
     | some V2 =>
      rw [hm] at HMT
      simp only [Option.getD_some] at HMT
      clear hm ht
      go_upto_region 6 with (first | (have h := HF1.out; clear HF1; go_at_call 32; refine (h _ HB1.out).mono ?_; clear h; rintro e w2 ⟨rfl, hb⟩; (have a0 := cell_keep hb a0; have b0 := cell_keep hb b0); have HB2 := Lib.hid (HB1.out.trans (hb.mono HB1.out.size)); clear hb) | (have h := HF2.out; clear HF2; go_at_call 32; refine (h _ HB2.out).mono ?_; clear h; rintro e w3 ⟨rfl, hb⟩; (have a0 := cell_keep hb a0; have b0 := cell_keep hb b0); have HB3 := Lib.hid (HB2.out.trans (hb.mono HB2.out.size)); clear hb) | (have h := HCT.out; clear HCT; go_at_call 36; refine (h _ HB3.out).mono ?_; clear h; rintro e w4 ⟨rfl, hb⟩; (have a0 := cell_keep hb a0; have b0 := cell_keep hb b0); have HB4 := Lib.hid (HB3.out.trans (hb.mono HB3.out.size)); clear hb) | (have h := HMN.out; clear HMN; go_at_call 45; refine (h _ HB4.out).mono ?_; clear h; rintro e w5 ⟨va, vc, rfl, hcv, hb⟩; (have a0 := cell_keep hb a0; have b0 := cell_keep hb b0); have HCV := Lib.hid hcv; have HB5 := Lib.hid (HB4.out.trans (hb.mono HB4.out.size)); clear hb hcv))
      have hal := (Below.refl w5.heap.size w5).alloc (Nat.le_refl _) (.cells #[.slice va V1.length vc] 48)
      refine gen_world (fun W => Below w5.heap.size w5 W ∧ W.cell? ⟨w5.heap.size, 0, none⟩ = some (.slice va V1.length vc)) ⟨(Below.refl _ _).alloc (Nat.le_refl _) _, by simp [go_sem]⟩ ?_
      rintro W6 ⟨hb, l0⟩
      (have a0 := cell_keep hb a0; have b0 := cell_keep hb b0)
      have HCV := Lib.hid (HCV.out.keep hb)
      have HB6 := Lib.hid (HB5.out.trans (hb.mono HB5.out.size))
      obtain ⟨g5, hg5⟩ : ∃ g, g = w5.heap.size := ⟨_, rfl⟩
      rw [← hg5] at l0 ⊢
      clear hb hal hg5
      go_upto_region 7 with (have h := HMT.out; clear HMT; go_at_call 46; refine (h _ HB6.out).mono ?_; clear h; rintro e w7 ⟨xa, xc, rfl, hcv, hb⟩; (have a0 := cell_keep hb a0; have b0 := cell_keep hb b0); have l0 := cell_keep hb l0; have HCV := Lib.hid (HCV.out.keep hb); have HCX := Lib.hid hcv; have HB7 := Lib.hid (HB6.out.trans (hb.mono HB6.out.size)); clear hb hcv)
      refine gen_world (fun W => Below w7.heap.size w7 W ∧ W.cell? ⟨w7.heap.size, 0, none⟩ = some (.slice xa V2.length xc)) ⟨(Below.refl _ _).alloc (Nat.le_refl _) _, by simp [go_sem]⟩ ?_
      rintro W8 ⟨hb, m0⟩
      (have a0 := cell_keep hb a0; have b0 := cell_keep hb b0)
      have l0 := cell_keep hb l0
      have HCV := Lib.hid (HCV.out.keep hb)
      have HCX := Lib.hid (HCX.out.keep hb)
      have HB8 := Lib.hid (HB7.out.trans (hb.mono HB7.out.size))
      obtain ⟨g7, hg7⟩ : ∃ g, g = w7.heap.size := ⟨_, rfl⟩
      rw [← hg7] at m0 ⊢
      clear hb hg7
      go_wp2_with fail
      go_ret
      exact ⟨rfl, HB8.out⟩
    | some V1 =>
     rw [hl] at HMN
     simp only [Option.getD_some] at HMN
     cases hm : meetM (B.map (·.planes)) [] (A.map (·.planes)) with
     | none =>
      rw [hm] at HMT
      simp only [Option.getD_none] at HMT
      generalize hV2 : ([] : List (List Pl)) = V2 at HMT
      clear hl hm hV2 ht
      go_upto_region 6 with (first | (have h := HF1.out; clear HF1; go_at_call 32; refine (h _ HB1.out).mono ?_; clear h; rintro e w2 ⟨rfl, hb⟩; (have a0 := cell_keep hb a0; have b0 := cell_keep hb b0); have HB2 := Lib.hid (HB1.out.trans (hb.mono HB1.out.size)); clear hb) | (have h := HF2.out; clear HF2; go_at_call 32; refine (h _ HB2.out).mono ?_; clear h; rintro e w3 ⟨rfl, hb⟩; (have a0 := cell_keep hb a0; have b0 := cell_keep hb b0); have HB3 := Lib.hid (HB2.out.trans (hb.mono HB2.out.size)); clear hb) | (have h := HCT.out; clear HCT; go_at_call 36; refine (h _ HB3.out).mono ?_; clear h; rintro e w4 ⟨rfl, hb⟩; (have a0 := cell_keep hb a0; have b0 := cell_keep hb b0); have HB4 := Lib.hid (HB3.out.trans (hb.mono HB3.out.size)); clear hb) | (have h := HMN.out; clear HMN; go_at_call 45; refine (h _ HB4.out).mono ?_; clear h; rintro e w5 ⟨va, vc, rfl, hcv, hb⟩; (have a0 := cell_keep hb a0; have b0 := cell_keep hb b0); have HCV := Lib.hid hcv; have HB5 := Lib.hid (HB4.out.trans (hb.mono HB4.out.size)); clear hb hcv))
      have hal := (Below.refl w5.heap.size w5).alloc (Nat.le_refl _) (.cells #[.slice va V1.length vc] 48)
      refine gen_world (fun W => Below w5.heap.size w5 W ∧ W.cell? ⟨w5.heap.size, 0, none⟩ = some (.slice va V1.length vc)) ⟨(Below.refl _ _).alloc (Nat.le_refl _) _, by simp [go_sem]⟩ ?_
      rintro W6 ⟨hb, l0⟩
      (have a0 := cell_keep hb a0; have b0 := cell_keep hb b0)
      have HCV := Lib.hid (HCV.out.keep hb)
      have HB6 := Lib.hid (HB5.out.trans (hb.mono HB5.out.size))
      obtain ⟨g5, hg5⟩ : ∃ g, g = w5.heap.size := ⟨_, rfl⟩
      rw [← hg5] at l0 ⊢
      clear hb hal hg5
      go_upto_region 7 with (have h := HMT.out; clear HMT; go_at_call 46; refine (h _ HB6.out).mono ?_; clear h; rintro e w7 ⟨xa, xc, rfl, hcv, hb⟩; (have a0 := cell_keep hb a0; have b0 := cell_keep hb b0); have l0 := cell_keep hb l0; have HCV := Lib.hid (HCV.out.keep hb); have HCX := Lib.hid hcv; have HB7 := Lib.hid (HB6.out.trans (hb.mono HB6.out.size)); clear hb hcv)
      refine gen_world (fun W => Below w7.heap.size w7 W ∧ W.cell? ⟨w7.heap.size, 0, none⟩ = some (.slice xa V2.length xc)) ⟨(Below.refl _ _).alloc (Nat.le_refl _) _, by simp [go_sem]⟩ ?_
      rintro W8 ⟨hb, m0⟩
      (have a0 := cell_keep hb a0; have b0 := cell_keep hb b0)
      have l0 := cell_keep hb l0
      have HCV := Lib.hid (HCV.out.keep hb)
      have HCX := Lib.hid (HCX.out.keep hb)
      have HB8 := Lib.hid (HB7.out.trans (hb.mono HB7.out.size))
      obtain ⟨g7, hg7⟩ : ∃ g, g = w7.heap.size := ⟨_, rfl⟩
      rw [← hg7] at m0 ⊢
      clear hb hg7
      go_wp2_with fail
      go_ret
      exact ⟨rfl, HB8.out⟩
     | some V2 =>
      rw [hm] at HMT
      simp only [Option.getD_some] at HMT
      by_cases h12 : 12 < V1.length
      ·have h12i : (12 : Int) < (V1.length : Int) := by omega
       clear hl hm ht h12
       go_upto_region 6 with (first | (have h := HF1.out; clear HF1; go_at_call 32; refine (h _ HB1.out).mono ?_; clear h; rintro e w2 ⟨rfl, hb⟩; (have a0 := cell_keep hb a0; have b0 := cell_keep hb b0); have HB2 := Lib.hid (HB1.out.trans (hb.mono HB1.out.size)); clear hb) | (have h := HF2.out; clear HF2; go_at_call 32; refine (h _ HB2.out).mono ?_; clear h; rintro e w3 ⟨rfl, hb⟩; (have a0 := cell_keep hb a0; have b0 := cell_keep hb b0); have HB3 := Lib.hid (HB2.out.trans (hb.mono HB2.out.size)); clear hb) | (have h := HCT.out; clear HCT; go_at_call 36; refine (h _ HB3.out).mono ?_; clear h; rintro e w4 ⟨rfl, hb⟩; (have a0 := cell_keep hb a0; have b0 := cell_keep hb b0); have HB4 := Lib.hid (HB3.out.trans (hb.mono HB3.out.size)); clear hb) | (have h := HMN.out; clear HMN; go_at_call 45; refine (h _ HB4.out).mono ?_; clear h; rintro e w5 ⟨va, vc, rfl, hcv, hb⟩; (have a0 := cell_keep hb a0; have b0 := cell_keep hb b0); have HCV := Lib.hid hcv; have HB5 := Lib.hid (HB4.out.trans (hb.mono HB4.out.size)); clear hb hcv))
       have hal := (Below.refl w5.heap.size w5).alloc (Nat.le_refl _) (.cells #[.slice va V1.length vc] 48)
       refine gen_world (fun W => Below w5.heap.size w5 W ∧ W.cell? ⟨w5.heap.size, 0, none⟩ = some (.slice va V1.length vc)) ⟨(Below.refl _ _).alloc (Nat.le_refl _) _, by simp [go_sem]⟩ ?_
       rintro W6 ⟨hb, l0⟩
       (have a0 := cell_keep hb a0; have b0 := cell_keep hb b0)
       have HCV := Lib.hid (HCV.out.keep hb)
       have HB6 := Lib.hid (HB5.out.trans (hb.mono HB5.out.size))
       obtain ⟨g5, hg5⟩ : ∃ g, g = w5.heap.size := ⟨_, rfl⟩
       rw [← hg5] at l0 ⊢
       clear hb hal hg5
       go_upto_region 7 with (have h := HMT.out; clear HMT; go_at_call 46; refine (h _ HB6.out).mono ?_; clear h; rintro e w7 ⟨xa, xc, rfl, hcv, hb⟩; (have a0 := cell_keep hb a0; have b0 := cell_keep hb b0); have l0 := cell_keep hb l0; have HCV := Lib.hid (HCV.out.keep hb); have HCX := Lib.hid hcv; have HB7 := Lib.hid (HB6.out.trans (hb.mono HB6.out.size)); clear hb hcv)
       refine gen_world (fun W => Below w7.heap.size w7 W ∧ W.cell? ⟨w7.heap.size, 0, none⟩ = some (.slice xa V2.length xc)) ⟨(Below.refl _ _).alloc (Nat.le_refl _) _, by simp [go_sem]⟩ ?_
       rintro W8 ⟨hb, m0⟩
       (have a0 := cell_keep hb a0; have b0 := cell_keep hb b0)
       have l0 := cell_keep hb l0
       have HCV := Lib.hid (HCV.out.keep hb)
       have HCX := Lib.hid (HCX.out.keep hb)
       have HB8 := Lib.hid (HB7.out.trans (hb.mono HB7.out.size))
       obtain ⟨g7, hg7⟩ : ∃ g, g = w7.heap.size := ⟨_, rfl⟩
       rw [← hg7] at m0 ⊢
       clear hb hg7
       go_wp2_with fail
       go_ret
       exact ⟨rfl, HB8.out⟩
      ·have h12i : ¬ (12 : Int) < (V1.length : Int) := by omega
       by_cases h9 : 9 < V2.length
       ·have h9i : (9 : Int) < (V2.length : Int) := by omega
        clear hl hm ht h12 h9
        go_upto_region 6 with (first | (have h := HF1.out; clear HF1; go_at_call 32; refine (h _ HB1.out).mono ?_; clear h; rintro e w2 ⟨rfl, hb⟩; (have a0 := cell_keep hb a0; have b0 := cell_keep hb b0); have HB2 := Lib.hid (HB1.out.trans (hb.mono HB1.out.size)); clear hb) | (have h := HF2.out; clear HF2; go_at_call 32; refine (h _ HB2.out).mono ?_; clear h; rintro e w3 ⟨rfl, hb⟩; (have a0 := cell_keep hb a0; have b0 := cell_keep hb b0); have HB3 := Lib.hid (HB2.out.trans (hb.mono HB2.out.size)); clear hb) | (have h := HCT.out; clear HCT; go_at_call 36; refine (h _ HB3.out).mono ?_; clear h; rintro e w4 ⟨rfl, hb⟩; (have a0 := cell_keep hb a0; have b0 := cell_keep hb b0); have HB4 := Lib.hid (HB3.out.trans (hb.mono HB3.out.size)); clear hb) | (have h := HMN.out; clear HMN; go_at_call 45; refine (h _ HB4.out).mono ?_; clear h; rintro e w5 ⟨va, vc, rfl, hcv, hb⟩; (have a0 := cell_keep hb a0; have b0 := cell_keep hb b0); have HCV := Lib.hid hcv; have HB5 := Lib.hid (HB4.out.trans (hb.mono HB4.out.size)); clear hb hcv))
        have hal := (Below.refl w5.heap.size w5).alloc (Nat.le_refl _) (.cells #[.slice va V1.length vc] 48)
        refine gen_world (fun W => Below w5.heap.size w5 W ∧ W.cell? ⟨w5.heap.size, 0, none⟩ = some (.slice va V1.length vc)) ⟨(Below.refl _ _).alloc (Nat.le_refl _) _, by simp [go_sem]⟩ ?_
        rintro W6 ⟨hb, l0⟩
        (have a0 := cell_keep hb a0; have b0 := cell_keep hb b0)
        have HCV := Lib.hid (HCV.out.keep hb)
        have HB6 := Lib.hid (HB5.out.trans (hb.mono HB5.out.size))
        obtain ⟨g5, hg5⟩ : ∃ g, g = w5.heap.size := ⟨_, rfl⟩
        rw [← hg5] at l0 ⊢
        clear hb hal hg5
        go_upto_region 7 with (have h := HMT.out; clear HMT; go_at_call 46; refine (h _ HB6.out).mono ?_; clear h; rintro e w7 ⟨xa, xc, rfl, hcv, hb⟩; (have a0 := cell_keep hb a0; have b0 := cell_keep hb b0); have l0 := cell_keep hb l0; have HCV := Lib.hid (HCV.out.keep hb); have HCX := Lib.hid hcv; have HB7 := Lib.hid (HB6.out.trans (hb.mono HB6.out.size)); clear hb hcv)
        refine gen_world (fun W => Below w7.heap.size w7 W ∧ W.cell? ⟨w7.heap.size, 0, none⟩ = some (.slice xa V2.length xc)) ⟨(Below.refl _ _).alloc (Nat.le_refl _) _, by simp [go_sem]⟩ ?_
        rintro W8 ⟨hb, m0⟩
        (have a0 := cell_keep hb a0; have b0 := cell_keep hb b0)
        have l0 := cell_keep hb l0
        have HCV := Lib.hid (HCV.out.keep hb)
        have HCX := Lib.hid (HCX.out.keep hb)
        have HB8 := Lib.hid (HB7.out.trans (hb.mono HB7.out.size))
        obtain ⟨g7, hg7⟩ : ∃ g, g = w7.heap.size := ⟨_, rfl⟩
        rw [← hg7] at m0 ⊢
        clear hb hg7
        go_wp2_with fail
        go_ret
        exact ⟨rfl, HB8.out⟩
       ·have h9i : ¬ (9 : Int) < (V2.length : Int) := by omega
        have hv1 : V1.length ≤ 12 := by omega
        have hv2 : V2.length ≤ 9 := by omega
        have PF := Lib.hid (parts_facts ht hl hm hv1 hv2)
        have HLS := Lib.hid (And.intro (minE_val ht) (bothE_val ht))
        clear hl hm h12 h9
        have HP1 : Hid (∀ x ∈ V1.map Cell.mk, x.planes.length ≤ 16) := Lib.hid (fun x hx => by
         have := (solE_zero.1 (twoE_zero.1 PF.out.two).1).2 x hx
         exact (readE_zero.1 this).1)
        have HP2 : Hid (∀ x ∈ (V1 ++ V2).map Cell.mk, x.planes.length ≤ 1000) := Lib.hid (fun x hx => by
         obtain ⟨q, hq, rfl⟩ := List.mem_map.1 hx
         have := PF.out.len q hq
         simp only; omega)
        have HC1 := Lib.hid (fun W va vc (hv : Cells.V W va (V1.map Cell.mk)) (h : Below w.heap.size w W) => clashes_any (V1.map Cell.mk) B va vc ba bc W (by simp; omega) hv (fun x hx => by have := HP1.out x hx; omega) (by omega) (HVB.out.keep h) (fun x hx => by have := HPB.out x hx; omega))
        rw [PF.out.lap, PF.out.two, List.length_map] at HC1
        simp only [lapI, lapJ, lapC, Option.isSome_none, List.length_nil] at HC1
        have HC2 := Lib.hid (fun W (h : Below w.heap.size w W) => clashes_any A B aa ac ba bc W (by omega) (HVA.out.keep h) (fun x hx => by have := HPA.out x hx; omega) (by omega) (HVB.out.keep h) (fun x hx => by have := HPB.out x hx; omega))
        rw [PF.out.was, ht] at HC2
        generalize lapO A B = O at HC2
        generalize lapI O = OI at HC2
        generalize lapJ O = OJ at HC2
        generalize lapC O = OC at HC2
        have HJ := Lib.hid (fun W va vc xa xc (hv : Cells.V W va (V1.map Cell.mk)) (hx : Cells.V W xa (V2.map Cell.mk)) => join_any (V1.map Cell.mk) (V2.map Cell.mk) va vc xa xc W (by simp; omega) hv (fun x hx => by have := HP1.out x hx; omega) (by simp; omega) hx (fun x hx => HP2.out x (by rw [List.map_append]; exact List.mem_append.2 (.inr hx))))
        rw [PF.out.joe, PF.out.jov, List.length_map, List.length_map, List.length_map] at HJ
        have HS := Lib.hid (fun W va vc (hv : Cells.V W va ((V1 ++ V2).map Cell.mk)) (h : Below w.heap.size w W) => same_any ((V1 ++ V2).map Cell.mk) A va vc aa ac W (by simp; omega) hv (fun x hx => by have := HP2.out x hx; omega) (by omega) (HVA.out.keep h) (fun x hx => by have := HPA.out x hx; omega))
        rw [List.length_map] at HS
        have HSM := Lib.hid PF.out.same
        generalize sameE ((V1 ++ V2).map Cell.mk) A = SE at HS HSM
        generalize sameV ((V1 ++ V2).map Cell.mk) A = SV at HS HSM
        obtain ⟨V3, hV3⟩ : ∃ V3, V3 = V1 ++ V2 := ⟨_, rfl⟩
        rw [← hV3] at HJ HS
        have HV3 := Lib.hid hV3
        clear ht PF HLS hV3
        go_upto_region 6 with (first | (have h := HF1.out; clear HF1; go_at_call 32; refine (h _ HB1.out).mono ?_; clear h; rintro e w2 ⟨rfl, hb⟩; (have a0 := cell_keep hb a0; have b0 := cell_keep hb b0); have HB2 := Lib.hid (HB1.out.trans (hb.mono HB1.out.size)); clear hb) | (have h := HF2.out; clear HF2; go_at_call 32; refine (h _ HB2.out).mono ?_; clear h; rintro e w3 ⟨rfl, hb⟩; (have a0 := cell_keep hb a0; have b0 := cell_keep hb b0); have HB3 := Lib.hid (HB2.out.trans (hb.mono HB2.out.size)); clear hb) | (have h := HCT.out; clear HCT; go_at_call 36; refine (h _ HB3.out).mono ?_; clear h; rintro e w4 ⟨rfl, hb⟩; (have a0 := cell_keep hb a0; have b0 := cell_keep hb b0); have HB4 := Lib.hid (HB3.out.trans (hb.mono HB3.out.size)); clear hb) | (have h := HMN.out; clear HMN; go_at_call 45; refine (h _ HB4.out).mono ?_; clear h; rintro e w5 ⟨va, vc, rfl, hcv, hb⟩; (have a0 := cell_keep hb a0; have b0 := cell_keep hb b0); have HCV := Lib.hid hcv; have HB5 := Lib.hid (HB4.out.trans (hb.mono HB4.out.size)); clear hb hcv))
        have hal := (Below.refl w5.heap.size w5).alloc (Nat.le_refl _) (.cells #[.slice va V1.length vc] 48)
        refine gen_world (fun W => Below w5.heap.size w5 W ∧ W.cell? ⟨w5.heap.size, 0, none⟩ = some (.slice va V1.length vc)) ⟨(Below.refl _ _).alloc (Nat.le_refl _) _, by simp [go_sem]⟩ ?_
        rintro W6 ⟨hb, l0⟩
        (have a0 := cell_keep hb a0; have b0 := cell_keep hb b0)
        have HCV := Lib.hid (HCV.out.keep hb)
        have HB6 := Lib.hid (HB5.out.trans (hb.mono HB5.out.size))
        obtain ⟨g5, hg5⟩ : ∃ g, g = w5.heap.size := ⟨_, rfl⟩
        rw [← hg5] at l0 ⊢
        clear hb hal hg5
        go_upto_region 7 with (have h := HMT.out; clear HMT; go_at_call 46; refine (h _ HB6.out).mono ?_; clear h; rintro e w7 ⟨xa, xc, rfl, hcv, hb⟩; (have a0 := cell_keep hb a0; have b0 := cell_keep hb b0); have l0 := cell_keep hb l0; have HCV := Lib.hid (HCV.out.keep hb); have HCX := Lib.hid hcv; have HB7 := Lib.hid (HB6.out.trans (hb.mono HB6.out.size)); clear hb hcv)
        refine gen_world (fun W => Below w7.heap.size w7 W ∧ W.cell? ⟨w7.heap.size, 0, none⟩ = some (.slice xa V2.length xc)) ⟨(Below.refl _ _).alloc (Nat.le_refl _) _, by simp [go_sem]⟩ ?_
        rintro W8 ⟨hb, m0⟩
        (have a0 := cell_keep hb a0; have b0 := cell_keep hb b0)
        have l0 := cell_keep hb l0
        have HCV := Lib.hid (HCV.out.keep hb)
        have HCX := Lib.hid (HCX.out.keep hb)
        have HB8 := Lib.hid (HB7.out.trans (hb.mono HB7.out.size))
        obtain ⟨g7, hg7⟩ : ∃ g, g = w7.heap.size := ⟨_, rfl⟩
        rw [← hg7] at m0 ⊢
        clear hb hg7
        have HQ1 := Lib.hid (HC1.out W8 va vc HCV.out HB8.out)
        clear HC1
        go_upto_region 12 with (go_at_call 64; refine HQ1.out.mono ?_; rintro e w9 ⟨ka, kc, rfl, -, hb⟩; (have a0 := cell_keep hb a0; have b0 := cell_keep hb b0); have l0 := cell_keep hb l0; have m0 := cell_keep hb m0; have HCV := Lib.hid (HCV.out.keep hb); have HCX := Lib.hid (HCX.out.keep hb); have HB9 := Lib.hid (HB8.out.trans (hb.mono HB8.out.size)); clear hb)
        refine gen_world (fun W => Below w9.heap.size w9 W) (by repeat (first | exact (Below.refl _ _) | (refine Below.setCell ?_ (by simp) _) | (refine Below.alloc ?_ (by simp) _))) ?_
        rintro W9 hb
        (have a0 := cell_keep hb a0; have b0 := cell_keep hb b0)
        have l0 := cell_keep hb l0
        have m0 := cell_keep hb m0
        have HCV := Lib.hid (HCV.out.keep hb)
        have HCX := Lib.hid (HCX.out.keep hb)
        have HB10 := Lib.hid (HB9.out.trans (hb.mono HB9.out.size))
        obtain ⟨g9, hg9⟩ : ∃ g, g = w9.heap.size := ⟨_, rfl⟩
        rw [← hg9]
        clear hb hg9 HQ1
        have HQ2 := Lib.hid (HC2.out W9 HB10.out)
        clear HC2
        go_upto_region 13 with (go_at_call 64; refine HQ2.out.mono ?_; rintro e w11 ⟨ka2, kc2, rfl, -, hb⟩; (have a0 := cell_keep hb a0; have b0 := cell_keep hb b0); have l0 := cell_keep hb l0; have m0 := cell_keep hb m0; have HCV := Lib.hid (HCV.out.keep hb); have HCX := Lib.hid (HCX.out.keep hb); have HB11 := Lib.hid (HB10.out.trans (hb.mono HB10.out.size)); clear hb)
        refine gen_world (fun W => Below w11.heap.size w11 W) (by repeat (first | exact (Below.refl _ _) | (refine Below.setCell ?_ (by simp) _) | (refine Below.alloc ?_ (by simp) _))) ?_
        rintro W11 hb
        (have a0 := cell_keep hb a0; have b0 := cell_keep hb b0)
        have l0 := cell_keep hb l0
        have m0 := cell_keep hb m0
        have HCV := Lib.hid (HCV.out.keep hb)
        have HCX := Lib.hid (HCX.out.keep hb)
        have HB12 := Lib.hid (HB11.out.trans (hb.mono HB11.out.size))
        obtain ⟨g12, hg12⟩ : ∃ g, g = w11.heap.size := ⟨_, rfl⟩
        rw [← hg12]
        clear hb hg12 HQ2
        have HQ3 := Lib.hid (HJ.out W11 va vc xa xc HCV.out HCX.out)
        clear HJ
        have hdc : decide (0 < V2.length) = decide (((V2.length : Nat) : Int) > 0) := by
         rw [Bool.eq_iff_iff]; simp only [decide_eq_true_eq]; omega
        by_cases hv0 : (0 : Int) < (V2.length : Int)
        ·have hv00 : decide (0 < V2.length) = true := decide_eq_true (by omega)
         have hv01 : 0 < V2.length := by omega
         rw [hv00]
         go_upto_region 16 with (go_at_call 61; refine HQ3.out.mono ?_; rintro e w13 ⟨ya, yc, rfl, hcv, hb⟩; (have a0 := cell_keep hb a0; have b0 := cell_keep hb b0); have HCY := Lib.hid hcv; have HB13 := Lib.hid (HB12.out.trans (hb.mono HB12.out.size)); clear hb hcv)
         refine gen_world (fun W => Below w13.heap.size w13 W ∧ W.cell? ⟨w13.heap.size, 0, none⟩ = some (.slice ya V3.length yc)) ⟨(Below.refl _ _).alloc (Nat.le_refl _) _, by simp [go_sem]⟩ ?_
         rintro W13 ⟨hb, y0⟩
         (have a0 := cell_keep hb a0; have b0 := cell_keep hb b0)
         have HCY := Lib.hid (HCY.out.keep hb)
         have HB14 := Lib.hid (HB13.out.trans (hb.mono HB13.out.size))
         obtain ⟨g15, hg15⟩ : ∃ g, g = w13.heap.size := ⟨_, rfl⟩
         rw [← hg15] at y0 ⊢
         clear hb hg15 HQ3
         have HQ4 := Lib.hid (HS.out W13 ya yc HCY.out HB14.out)
         clear HS
         rcases HSM.out with ⟨e1, e2⟩ | e1
         ·rw [e1, e2] at HQ4
          clear e1 e2 HSM
          go_wp2_with (go_at_call 35; refine HQ4.out.mono ?_; rintro e w14 ⟨rfl, hb⟩; have HB15 := Lib.hid (HB14.out.trans (hb.mono HB14.out.size)); clear hb)
          go_ret
          exact ⟨rfl, HB15.out⟩
         ·rw [e1] at HQ4
          clear e1 HSM
          go_wp2_with (go_at_call 35; refine HQ4.out.mono ?_; rintro e w14 ⟨rfl, hb⟩; have HB15 := Lib.hid (HB14.out.trans (hb.mono HB14.out.size)); clear hb)
          go_ret
          exact ⟨rfl, HB15.out⟩
        ·have hv00 : decide (0 < V2.length) = false := decide_eq_false (by omega)
         have hv01 : ¬ 0 < V2.length := by omega
         rw [hv00]
         go_upto_region 16 with (go_at_call 61; refine HQ3.out.mono ?_; rintro e w13 ⟨ya, yc, rfl, hcv, hb⟩; (have a0 := cell_keep hb a0; have b0 := cell_keep hb b0); have HCY := Lib.hid hcv; have HB13 := Lib.hid (HB12.out.trans (hb.mono HB12.out.size)); clear hb hcv)
         refine gen_world (fun W => Below w13.heap.size w13 W ∧ W.cell? ⟨w13.heap.size, 0, none⟩ = some (.slice ya V3.length yc)) ⟨(Below.refl _ _).alloc (Nat.le_refl _) _, by simp [go_sem]⟩ ?_
         rintro W13 ⟨hb, y0⟩
         (have a0 := cell_keep hb a0; have b0 := cell_keep hb b0)
         have HCY := Lib.hid (HCY.out.keep hb)
         have HB14 := Lib.hid (HB13.out.trans (hb.mono HB13.out.size))
         obtain ⟨g15, hg15⟩ : ∃ g, g = w13.heap.size := ⟨_, rfl⟩
         rw [← hg15] at y0 ⊢
         clear hb hg15 HQ3
         have HQ4 := Lib.hid (HS.out W13 ya yc HCY.out HB14.out)
         clear HS
         rcases HSM.out with ⟨e1, e2⟩ | e1
         ·rw [e1, e2] at HQ4
          clear e1 e2 HSM
          go_wp2_with (go_at_call 35; refine HQ4.out.mono ?_; rintro e w14 ⟨rfl, hb⟩; have HB15 := Lib.hid (HB14.out.trans (hb.mono HB14.out.size)); clear hb)
          go_ret
          exact ⟨rfl, HB15.out⟩
         ·rw [e1] at HQ4
          clear e1 HSM
          go_wp2_with (go_at_call 35; refine HQ4.out.mono ?_; rintro e w14 ⟨rfl, hb⟩; have HB15 := Lib.hid (HB14.out.trans (hb.mono HB14.out.size)); clear hb)
          go_ret
          exact ⟨rfl, HB15.out⟩
   ·have htb : (twoE A B != 0) = true := by simpa using ht
    clear ht
    generalize twoE A B = E at *
    go_wp2_with (first | (have h := HF1.out; clear HF1; go_at_call 32; refine (h _ HB1.out).mono ?_; clear h; rintro e w2 ⟨rfl, hb⟩; (have a0 := cell_keep hb a0; have b0 := cell_keep hb b0); have HB2 := Lib.hid (HB1.out.trans (hb.mono HB1.out.size)); clear hb) | (have h := HF2.out; clear HF2; go_at_call 32; refine (h _ HB2.out).mono ?_; clear h; rintro e w3 ⟨rfl, hb⟩; (have a0 := cell_keep hb a0; have b0 := cell_keep hb b0); have HB3 := Lib.hid (HB2.out.trans (hb.mono HB2.out.size)); clear hb) | (have h := HCT.out; clear HCT; go_at_call 36; refine (h _ HB3.out).mono ?_; clear h; rintro e w4 ⟨rfl, hb⟩; (have a0 := cell_keep hb a0; have b0 := cell_keep hb b0); have HB4 := Lib.hid (HB3.out.trans (hb.mono HB3.out.size)); clear hb))
    go_ret
    exact ⟨rfl, HB4.out⟩
  ·have h2' : fewB B 3 = false := by simpa using h2
   rw [h2'] at HF2
   clear h2 h2'
   go_wp2_with (first | (have h := HF1.out; clear HF1; go_at_call 32; refine (h _ HB1.out).mono ?_; clear h; rintro e w2 ⟨rfl, hb⟩; (have a0 := cell_keep hb a0; have b0 := cell_keep hb b0); have HB2 := Lib.hid (HB1.out.trans (hb.mono HB1.out.size)); clear hb) | (have h := HF2.out; clear HF2; go_at_call 32; refine (h _ HB2.out).mono ?_; clear h; rintro e w3 ⟨rfl, hb⟩; (have a0 := cell_keep hb a0; have b0 := cell_keep hb b0); have HB3 := Lib.hid (HB2.out.trans (hb.mono HB2.out.size)); clear hb))
   go_ret
   exact ⟨rfl, HB3.out⟩
 ·have h1' : fewB A 3 = false := by simpa using h1
  rw [h1'] at HF1
  clear h1 h1'
  go_wp2_with (have h := HF1.out; clear HF1; go_at_call 32; refine (h _ HB1.out).mono ?_; clear h; rintro e w2 ⟨rfl, hb⟩; (have a0 := cell_keep hb a0; have b0 := cell_keep hb b0); have HB2 := Lib.hid (HB1.out.trans (hb.mono HB1.out.size)); clear hb)
  go_ret
  exact ⟨rfl, HB2.out⟩
set_option maxRecDepth 100000 in
theorem solidParts_walks : Walks 16 Tryz.f16 := by
 intro H enc W base args ds p hval hA hlt
 rw [Tryz.params16] at hA hval
 obtain ⟨v0, vs0, d0, ds0, p0, q0, hargs, rfl, rfl, ⟨fu0, hf0⟩, r0⟩ := trodAll_cons hA
 obtain ⟨v1, vs1, d1, ds1, p1, q1, rfl, rfl, rfl, ⟨fu1, hf1⟩, r1⟩ := trodAll_cons r0
 obtain ⟨rfl, rfl, rfl⟩ := trodAll_nil r1
 obtain rfl : args = #[v0, v1] := by cases args; simp_all
 obtain ⟨cs0, rfl, -⟩ := okWide_struct Tryz.underlying48 (hval 0 48 v0 rfl rfl)
 obtain ⟨x0, a0, c0, hc0, V0, C0, M0, -⟩ := Solid.open_ hf0
 have hd0 : cs0 = #[.slice a0 x0.cells.length c0] := by
  cases cs0; simpa [Value.cells] using hc0
 subst hd0
 obtain ⟨cs1, rfl, -⟩ := okWide_struct Tryz.underlying48 (hval 1 48 v1 rfl rfl)
 obtain ⟨x1, a1, c1, hc1, V1, C1, M1, -⟩ := Solid.open_ hf1
 have hd1 : cs1 = #[.slice a1 x1.cells.length c1] := by
  cases cs1; simpa [Value.cells] using hc1
 subst hd1
 exact walkSolidParts x0 a0 c0 x1 a1 c1 W V0 (by unfold maxLen at M0; omega) C0 V1 (by unfold maxLen at M1; omega) C1

set_option maxRecDepth 100000 in
theorem solidParts_holds : Rows.SolidPartsSaid :=
 law_holds (s := Rows.solidPartsSpec) (c := Rows.solidPartsRow) 16 Tryz.f16 rfl
  (fun H ds h => by match ds, h with | [_, _], _ => rfl) (by kernel_rfl) (by kernel_rfl)
  rfl rfl rfl rfl rfl rfl rfl ⟨rfl, rfl, rfl, rfl, rfl⟩ rfl rfl rfl rfl rfl rfl rfl rfl rfl rfl (fun _ _ => rfl) (by kernel_rfl) Tryz.func16
  solidParts_closed (of_decide_eq_true (by kernel_rfl)) (by unfold Func.isWrapper; first | (rw [if_pos (by decide +kernel)]; kernel_rfl) | (rw [if_neg (by decide +kernel)]; exact ⟨rfl, rfl⟩)) (by kernel_rfl)
  (fun H enc os => ChangeSpec.witness6 (enc := enc) (C := Tryz.checked) false ⟨#[], #[.agg #[.slice none 0 0], .agg #[.slice none 0 0]], []⟩ 8 (by kernel_rfl) (by kernel_rfl) (by kernel_rfl) (by kernel_rfl))
  solidParts_walks
end Go.Proofs.YtbhgkadklklmbaaGreat
