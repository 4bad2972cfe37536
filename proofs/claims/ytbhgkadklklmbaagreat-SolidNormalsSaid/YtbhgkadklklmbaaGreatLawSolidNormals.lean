/- SolidNormals returns true for every input: the normal form has the same corners and is its own normal form; each of its planes has at least three corners on it, and all others within. No condition. -/
import Derived.Test.YtbhgkadklklmbaaGreatQO
import Derived.Test.YtbhgkadklklmbaaGreatQM
import Derived.Test.YtbhgkadklklmbaaGreatFactsSolidNormals
set_option linter.unusedVariables false
set_option linter.unusedSimpArgs false
namespace Go.Proofs.YtbhgkadklklmbaaGreat
open Go Go.ChangeShapes Go.WideShapes Go.ChangeAt Go.RowKit Go.Sort Go.Lib

/-! How many triples there are. -/
def tri2 : Nat → Nat
  | 0 => 0
  | n + 1 => tri2 n + n
def tri3 : Nat → Nat
  | 0 => 0
  | n + 1 => tri3 n + tri2 n
theorem rawK_tri (l : List Pl) (p : Pl) : ∀ k, (rawK l p k).length ≤ tri2 k
  | 0 => by simp [rawK, tri2]
  | k + 1 => by
    rw [rawK_succ, List.length_append, tri2]
    have := rawK_tri l p k
    have := rawR_len l p (l.getD k p0) k
    omega
theorem rawI_tri (l : List Pl) : ∀ n, (rawI l n).length ≤ tri3 n
  | 0 => by simp [rawI, tri3]
  | n + 1 => by
    rw [rawI_succ, List.length_append, tri3]
    have := rawI_tri l n
    have := rawK_tri l (l.getD n p0) n
    omega
theorem tri3_le : ∀ n, n ≤ 8 → tri3 n ≤ 56 := by decide
theorem corn_56 {l : List Pl} (h : l.length ≤ 8) : (corn l).length ≤ 56 := Nat.le_trans (srt_len _) (Nat.le_trans (rawI_tri l l.length) (tri3_le _ h))
theorem corn_coE {l : List Pl} (h : readE l = 0) : ∀ c ∈ corn l, coE c = 0 := fun c hc => by
  have hr := List.all_eq_true.1 (readE_zero.1 h).2.2.2.2 c hc
  have hg := good_of (readE_zero.1 h).2.1
  have hn := (corn_low c hc).pos
  have hi := (corn_in hg c hc).2
  unfold coE
  rw [if_pos ⟨by unfold withinB; simp; omega, hr⟩]
/-- What the law asks of a plane of the normal form. -/
theorem nf_plane {l : List Pl} (h : readE l = 0) {q : Pl} (hq : q ∈ nf l) : chkP q = 0 ∧ (∀ c ∈ corn l, sidE q c = 0 ∧ sd q c ≤ 0) ∧ 3 ≤ onN q (corn l) ∧ onN q (corn l) ≠ (corn l).length := by
  have hs := sol_of h
  have hn := nor_corn hs
  have hr := nor_read h
  have hq0 : chkP q = 0 := chkPs_zero.1 (readE_zero.1 hr).2.1 q hq
  have hle : ∀ c ∈ corn l, sd q c ≤ 0 := fun c hc => by
    have h1 := ((nf_body hs).2 (corn_inB hc)).2 q hq
    have : ¬ 0 < sd q c := fun hp => by rw [sd_pos] at hp; omega
    omega
  refine ⟨hq0, fun c hc => ⟨by unfold sidE; rw [if_neg (by simpa using hq0)]; exact corn_coE h c hc, hle c hc⟩, ?_, ?_⟩
  · obtain ⟨p, hp, h3, rfl⟩ := mem_nor.1 hq
    rw [onN_low (hs.nrm p hp)]; exact h3
  · obtain ⟨c, hc, hlt⟩ := insid_iff.1 hn.2.1.ins q hq
    rw [hn.1] at hc
    intro e
    unfold onN at e
    have hall := List.length_filter_eq_length_iff.1 e c hc
    rw [decide_eq_true_eq, sd_zero] at hall
    omega
def onT (q : Pl) (cs : List Co) (j : Nat) : Nat := onN q (cs.take j)
set_option maxRecDepth 100000 in
set_option maxHeartbeats 16000000 in
theorem walkSolidNormals (c : Cell) (ca : Option Addr) (cc : Nat) (w : World) (Vc : Pls.V w ca c.planes) (Lc : c.planes.length ≤ 9223372036854775807) (Cc : c.planes.length ≤ cc) :
    Calls Tryz.prog 5 #[.agg #[.slice ca c.planes.length cc]] w fun e w' => e = .returned (.bool true) ∧ Below w.heap.size w w' := by
  obtain ⟨ps, hps⟩ : ∃ ps, ps = c.planes := ⟨_, rfl⟩
  rw [← hps] at Vc Lc Cc ⊢
  clear hps
  have HV := Lib.hid Vc
  have HCC := Lib.hid Cc
  have HAW := Lib.hid awake_any
  have HSL := Lib.hid (fun W => slim_any ca ps.length cc Lc W)
  have HCK := Lib.hid (fun (h : ps.length ≤ 1000000) W (hb : Below w.heap.size w W) => checkCellR_any ps ca cc W h (Vc.keep hb))
  have HNO := Lib.hid (fun (h : ps.length ≤ 1000000) W (hb : Below w.heap.size w W) => normal2_any ps ca cc W h (Vc.keep hb) Cc)
  have HCO := Lib.hid (fun (h : ps.length ≤ 1000000) W (hb : Below w.heap.size w W) => corners_any ps ca cc W h (Vc.keep hb) Cc)
  clear Vc Cc
  go_enter Tryz.func5, Tryz.ntmps5
  go_upto_region 1 with fail
  refine gen_world (fun W => W.cell? ⟨w.heap.size, 0, none⟩ = some (.slice ca ps.length cc) ∧ Below w.heap.size w W) ⟨by simp [go_sem], by repeat (first | (with_reducible assumption) | exact Below.refl _ _ | (refine Below.setCell ?_ (by first | omega | (simp; omega) | (simp; done)) _) | (refine Below.alloc ?_ (by first | omega | (simp; omega) | (simp; done)) _) | (refine Below.drew ?_))⟩ ?_
  rintro W ⟨b0, hb⟩
  have HB0 := Lib.hid hb
  clear hb
  obtain ⟨gw, hgw⟩ : ∃ g, g = w.heap.size := ⟨_, rfl⟩
  have HGW := Lib.hid hgw
  rw [← hgw] at b0 ⊢
  clear hgw
  go_upto_region 3 with (go_at_call 18; refine (HAW.out _).mono ?_; rintro e w1 ⟨rfl, hb1⟩; have HB1 := Lib.hid (HB0.out.trans (hb1.mono HB0.out.size)); have b0 := cell_keep hb1 b0; clear hb1)
  by_cases hsl : slimB ps.length = true
  · have hl20 : ps.length ≤ 20 := by unfold slimB at hsl; simp only [Bool.or_eq_true, Bool.and_eq_true, decide_eq_true_eq] at hsl; omega
    have h8 : ps.length ≤ 16 → ps.length ≤ 8 := by unfold slimB at hsl; simp only [Bool.or_eq_true, Bool.and_eq_true, decide_eq_true_eq] at hsl; omega
    have H8 := Lib.hid h8
    clear h8
    rw [hsl] at HSL
    clear hsl
    have HCK2 := Lib.hid (HCK.out (by omega))
    by_cases h0 : readE ps = 0
    · rw [h0] at HCK2
      have HR := Lib.hid h0
      have HN2 := Lib.hid (HNO.out (by omega))
      have HC2 := Lib.hid (HCO.out (by omega))
      rw [h0, show norE ps = nf ps by unfold norE; rw [if_pos h0]] at HN2
      rw [h0, show cornE ps = corn ps by unfold cornE; rw [if_pos h0]] at HC2
      clear h0 HCK HNO HCO
      have HRN := Lib.hid (nor_read HR.out)
      have HSO := Lib.hid (sol_of HR.out)
      have HPL := Lib.hid (fun q (hq : q ∈ nf ps) => nf_plane HR.out hq)
      have HNN := Lib.hid (show nf (nf ps) = nf ps from nf_nf HSO.out)
      have HNC := Lib.hid (show corn (nf ps) = corn ps from (nor_corn HSO.out).1)
      have HNG := Lib.hid (show Good (nf ps) from (good_of (readE_zero.1 HR.out).2.1).nor _)
      have HCI := Lib.hid (show ∀ c ∈ corn ps, c.in_ from corn_in (good_of (readE_zero.1 HR.out).2.1))
      have hl16 : ps.length ≤ 8 := H8.out (readE_zero.1 HR.out).1
      have hc56 : (corn ps).length ≤ 56 := corn_56 hl16
      have hn8 : (nf ps).length ≤ ps.length := nor_len _ _
      have hrn : readE (nf ps) = 0 := HRN.out
      go_upto_region 6 with (first
        | (have h := HSL.out; clear HSL; go_at_call 19; refine (h _).mono ?_; clear h; rintro e w2 ⟨rfl, hb2⟩; have HB2 := Lib.hid (HB1.out.trans (hb2.mono HB1.out.size)); have b0 := cell_keep hb2 b0; clear hb2)
        | (have h := HCK2.out; clear HCK2; go_at_call 23; refine (h _ HB2.out).mono ?_; clear h; rintro e w3 ⟨rfl, hb3⟩; have HB3 := Lib.hid (HB2.out.trans (hb3.mono HB2.out.size)); have b0 := cell_keep hb3 b0; clear hb3)
        | (have h := HN2.out; clear HN2; go_at_call 20; refine (h _ HB3.out).mono ?_; clear h; rintro e w4 ⟨na, nc, rfl, ho4, hb4⟩; have HO4 := Lib.hid ho4; have HB4 := Lib.hid (HB3.out.trans (hb4.mono HB3.out.size)); have b0 := cell_keep hb4 b0; clear hb4 ho4))
      have HX0 := Lib.hid b0
      refine gen_world (fun W5 => W5.cell? ⟨w4.heap.size, 0, none⟩ = some (.slice na (nf ps).length nc) ∧ Below w4.heap.size w4 W5) ⟨by simp [go_sem], by repeat (first | (with_reducible assumption) | exact Below.refl _ _ | (refine Below.setCell ?_ (by first | omega | (simp; omega) | (simp; done)) _) | (refine Below.alloc ?_ (by first | omega | (simp; omega) | (simp; done)) _) | (refine Below.drew ?_))⟩ ?_
      rintro W5 ⟨d0, hb5⟩
      obtain ⟨g3, hg3⟩ : ∃ g, g = w4.heap.size := ⟨_, rfl⟩
      rw [← hg3] at d0 ⊢
      clear hg3
      have b0 := cell_keep hb5 HX0.out
      have HB5 := Lib.hid (HB4.out.trans (hb5.mono HB4.out.size))
      have HO5 := Lib.hid (own_keep HO4.out hb5)
      have HLC := Lib.hid (own_len_le HO4.out).2
      clear hb5
      go_upto_region 7 with (have h := HC2.out; clear HC2; go_at_call 22; refine (h _ HB5.out).mono ?_; clear h; rintro e w6 ⟨la, lc, rfl, ho6, hb6⟩; have HO6 := Lib.hid ho6; have HB6 := Lib.hid (HB5.out.trans (hb6.mono HB5.out.size)); have b0 := cell_keep hb6 b0; have d0 := cell_keep hb6 d0; have HN6 := Lib.hid (own_keep HO5.out hb6); clear hb6 ho6)
      have HNV := Lib.hid (show Pls.V w6 na (nf ps) from ownPlV (fun p hp => Pl.in_.wf (HNG.out p hp).1) HN6.out)
      have HLV := Lib.hid (show Cos.V w6 la (corn ps) from ownCoV (fun c hc => Co.in_.wf (HCI.out c hc)) HO6.out)
      have hk1 : ¬ (ps.length : Int) < ((nf ps).length : Int) := by omega
      have hk2 : ¬ (100 : Int) < ((corn ps).length : Int) := by omega
      have HCE1 := Lib.hid (fun W (h : Below w6.heap.size w6 W) => cell_any (nf ps) na nc W (HNV.out.keep h) (by omega))
      have HCE2 := Lib.hid (fun W (h : Below w6.heap.size w6 W) => cell_any (nf ps) na nc W (HNV.out.keep h) (by omega))
      go_upto_region 10 with (first
        | (have h := HCE1.out; clear HCE1; go_at_call 21; refine (h _ (Below.refl _ _)).mono ?_; clear h; rintro e w7 ⟨qa, qc, rfl, ho7, hb7⟩; have HB7 := Lib.hid hb7; have d0 := cell_keep hb7 d0; have HNQ := Lib.hid (normal2_any (nf ps) qa qc w7 (by omega) (ownPlV (fun p hp => Pl.in_.wf (HNG.out p hp).1) ho7) (own_len_le ho7).2); rw [show norE (nf ps) = nf ps by (unfold norE; rw [if_pos hrn]; exact HNN.out), hrn] at HNQ; clear hb7 ho7)
        | (have h := HNQ.out; clear HNQ; go_at_call 20; refine h.mono ?_; clear h; rintro e w8 ⟨ma, mc, rfl, ho8, hb8⟩; have HO8 := Lib.hid ho8; have HB8 := Lib.hid (HB7.out.trans (hb8.mono HB7.out.size)); have d0 := cell_keep hb8 d0; clear hb8 ho8))
      have HX0 := Lib.hid d0
      refine gen_world (fun W9 => W9.cell? ⟨w8.heap.size, 0, none⟩ = some (.slice ma (nf ps).length mc) ∧ Below w8.heap.size w8 W9) ⟨by simp [go_sem], by repeat (first | (with_reducible assumption) | exact Below.refl _ _ | (refine Below.setCell ?_ (by first | omega | (simp; omega) | (simp; done)) _) | (refine Below.alloc ?_ (by first | omega | (simp; omega) | (simp; done)) _) | (refine Below.drew ?_))⟩ ?_
      rintro W9 ⟨k0, hb9⟩
      obtain ⟨g7, hg7⟩ : ∃ g, g = w8.heap.size := ⟨_, rfl⟩
      rw [← hg7] at k0 ⊢
      clear hg7
      have d0 := cell_keep hb9 HX0.out
      have HB9 := Lib.hid (HB8.out.trans (hb9.mono HB8.out.size))
      have HO9 := Lib.hid (own_keep HO8.out hb9)
      clear hb9
      go_upto_region 11 with (first
        | (have h := HCE2.out; clear HCE2; go_at_call 21; refine (h _ HB9.out).mono ?_; clear h; rintro e wa ⟨qa2, qc2, rfl, hoa, hba⟩; have HBA := Lib.hid (HB9.out.trans (hba.mono HB9.out.size)); have d0 := cell_keep hba d0; have k0 := cell_keep hba k0; have HOA := Lib.hid (own_keep HO9.out hba); have HCQ := Lib.hid (corners_any (nf ps) qa2 qc2 wa (by omega) (ownPlV (fun p hp => Pl.in_.wf (HNG.out p hp).1) hoa) (own_len_le hoa).2); rw [show cornE (nf ps) = corn ps by (unfold cornE; rw [if_pos hrn]; exact HNC.out), hrn] at HCQ; clear hba hoa)
        | (have h := HCQ.out; clear HCQ; go_at_call 22; refine h.mono ?_; clear h; rintro e wb ⟨ka, kc, rfl, hob, hbb⟩; have HOB := Lib.hid hob; have HBB := Lib.hid (HBA.out.trans (hbb.mono HBA.out.size)); have d0 := cell_keep hbb d0; have k0 := cell_keep hbb k0; have HMB := Lib.hid (own_keep HOA.out hbb); clear hbb hob))
      have HMV := Lib.hid (show Pls.V wb ma (nf ps) from ownPlV (fun p hp => Pl.in_.wf (HNG.out p hp).1) HMB.out)
      have HKV := Lib.hid (show Cos.V wb ka (corn ps) from ownCoV (fun c hc => Co.in_.wf (HCI.out c hc)) HOB.out)
      have HSC := Lib.hid (sameCell_any (nf ps) ma mc (nf ps) na nc wb (by omega) (by omega) HMV.out (HNV.out.keep HBB.out))
      have HSK := Lib.hid (fun W (h : Below wb.heap.size wb W) => corners_same (corn ps) ka kc (corn ps) la lc W (by omega) (by omega) (HKV.out.keep h) ((HLV.out.keep HBB.out).keep h))
      rw [decide_eq_true (rfl : nf ps = nf ps)] at HSC
      rw [decide_eq_true (rfl : corn ps = corn ps)] at HSK
      go_upto_region 13 with (first
        | (have h := HSC.out; clear HSC; go_at_call 27; refine h.mono ?_; clear h; rintro e wc ⟨rfl, hbc⟩; have HBC := Lib.hid hbc; have d0 := cell_keep hbc d0; clear hbc)
        | (have h := HSK.out; clear HSK; go_at_call 29; refine (h _ HBC.out).mono ?_; clear h; rintro e wd ⟨rfl, hbd⟩; have HBD := Lib.hid (HBB.out.trans ((HBC.out.trans (hbd.mono HBC.out.size)).mono HBB.out.size)); have d0 := cell_keep hbd d0; clear hbd))
      have HBW := Lib.hid (HB6.out.trans (HBD.out.mono HB6.out.size))
      have HNVD := Lib.hid (HNV.out.keep HBD.out)
      have HLVD := Lib.hid (HLV.out.keep HBD.out)
      have HX0 := Lib.hid d0
      obtain ⟨N, hN⟩ : ∃ N, N = nf ps := ⟨_, rfl⟩
      obtain ⟨C, hC⟩ : ∃ C, C = corn ps := ⟨_, rfl⟩
      rw [← hN] at HNVD HX0 HPL hn8 ⊢
      rw [← hC] at HLVD HPL hc56 ⊢
      clear b0 d0 k0 hrn hk1 hk2 HSO HR HNN HNC HNG HCI HRN HNV HLV HMV HKV HO4 HO5 HO6 HN6 HO8 HO9 HOA HOB HMB hN hC H8
      go_wp2_with fail
      go_loopw [9] (fun iv wr => ∃ i : Nat, i ≤ N.length ∧ iv = .int .i64 (i : Int) ∧ Below wd.heap.size wd wr) (fun iv _ => N.length - (intOf iv).toNat)
      case atStart => exact ⟨0, Nat.zero_le _, rfl, Below.refl _ _⟩
      case round =>
        obtain ⟨i, hi, rfl, hb⟩ := hrel
        have HBI := Lib.hid hb
        have d0 := cell_keep hb HX0.out
        by_cases hlt : i < N.length
        · have hki : (i : Int) < (N.length : Int) := by omega
          obtain ⟨hq0, hqc, hq3, hqn⟩ := HPL.out _ (List.getElem_mem hlt)
          have HQC := Lib.hid hqc
          have HQ3 := Lib.hid hq3
          have HQN := Lib.hid hqn
          obtain ⟨nb, no, rfl, hat⟩ := (HNVD.out.keep hb).at_ hlt
          have HAT := Lib.hid hat
          generalize N[i] = q at *
          obtain ⟨wo, hwo⟩ : ∃ wo : World, wo = wr := ⟨_, rfl⟩
          subst hwo
          have HD0 := Lib.hid d0
          clear hq0 hqc hq3 hqn hat hb
          go_wp2_with fail
          go_loopw [10, 11] (fun ov jv wr => ∃ j : Nat, j ≤ C.length ∧ jv = .int .i64 (j : Int) ∧ ov = .int .i64 ((onT q C j : Nat) : Int) ∧ Below wo.heap.size wo wr) (fun _ jv _ => C.length - (intOf jv).toNat)
          case atStart => exact ⟨0, Nat.zero_le _, rfl, rfl, Below.refl _ _⟩
          case round =>
            obtain ⟨j, hj, rfl, rfl, hb⟩ := hrel
            have HBJ := Lib.hid hb
            have HBIJ := Lib.hid (HBI.out.trans (hb.mono HBI.out.size))
            have d0 := cell_keep hb HD0.out
            have HOL := Lib.hid (show onT q C j ≤ j by unfold onT onN; exact Nat.le_trans (List.length_filter_le _ _) (by rw [List.length_take]; omega))
            have hol := HOL.out
            by_cases hjt : j < C.length
            · have hji : (j : Int) < (C.length : Int) := by omega
              obtain ⟨hs0, hsl⟩ := HQC.out _ (List.getElem_mem hjt)
              have HST := Lib.hid (show onT q C (j + 1) = onT q C j + (if sd q C[j] = 0 then 1 else 0) from onN_step hjt)
              have HSD := Lib.hid (fun W => sideP_any q C[j] W)
              rw [show sidV q C[j] = sd q C[j] by unfold sidV; rw [if_pos hs0], hs0] at HSD
              obtain ⟨lb, lo, rfl, hat⟩ := (HLVD.out.keep HBIJ.out).at_ hjt
              generalize C[j] = c at *
              obtain ⟨c0, c1, c2, c3, -⟩ := hat
              obtain ⟨e0, e1, e2, e3, -⟩ := HAT.out
              have e0 := cell_keep hb e0
              have e1 := cell_keep hb e1
              have e2 := cell_keep hb e2
              have e3 := cell_keep hb e3
              have hl0 := block_lt_of_cell e0
              have hl1 := block_lt_of_cell c0
              have hl2 := block_lt_of_cell d0
              simp only at hl0 hl1 hl2
              clear hs0 hb
              generalize sd q c = X at *
              generalize onT q C j = on at *
              have hx0 : ¬ 0 < X := by omega
              have v1 : IntKind.i64.wrap ((on : Int) + 1) = ((on + 1 : Nat) : Int) := by rw [show (on : Int) + 1 = ((on + 1 : Nat) : Int) by omega]; exact IntWalk.i64_in _ (by omega)
              go_upto_region 20 with fail
              refine wp_region_grew (by kernel_rfl) (by kernel_rfl) ?_
              repeat (first
                | go_big_quiet_step ((go_at_call 38; exact grew_of (HSD.out _)))
                | quiet_step ((go_at_call 38; exact grew_of (HSD.out _))))
              refine wpQuiet_nil ?_
              rintro _ ⟨gg, rfl⟩
              have HFB := Lib.hid (show Below wo.heap.size wo (grew wr gg) from grewB HBJ.out HBJ.out.size _)
              by_cases hX : X = 0
              · have HE := Lib.hid (show onT q C (j + 1) = on + 1 by rw [HST.out, if_pos hX])
                go_wp2_with fail
                go_roundw
                case rel => exact ⟨j + 1, by omega, by go_num, by rw [HE.out]; first | done | rfl | simp, HFB.out⟩
                case measure => first | (simp [intOf]; done) | (simp [intOf]; omega)
              · have HE := Lib.hid (show onT q C (j + 1) = on by rw [HST.out, if_neg hX]; rfl)
                go_wp2_with fail
                go_roundw
                case rel => exact ⟨j + 1, by omega, by go_num, by rw [HE.out], HFB.out⟩
                case measure => first | (simp [intOf]; done) | (simp [intOf]; omega)
            · obtain rfl : j = C.length := by omega
              have hji : ¬ ((C.length : Nat) : Int) < ((C.length : Nat) : Int) := by omega
              have HE := Lib.hid (show onT q C C.length = onN q C by unfold onT; rw [List.take_length])
              have h3 : 3 ≤ onT q C C.length := by rw [HE.out]; exact HQ3.out
              have hn : onT q C C.length ≠ C.length := by rw [HE.out]; exact HQN.out
              clear hb
              generalize onT q C C.length = on at *
              have hk3 : ¬ (on : Int) < 3 := by omega
              have hkn : ¬ (on : Int) = (C.length : Int) := by omega
              go_wp2_with fail
              go_roundw
              case rel => exact ⟨i + 1, by omega, by go_num, HBIJ.out⟩
              case measure => first | (simp [intOf]; done) | (simp [intOf]; omega)
        · obtain rfl : i = N.length := by omega
          have hki : ¬ ((N.length : Nat) : Int) < ((N.length : Nat) : Int) := by omega
          clear hb
          go_wp2_with fail
          go_ret
          exact ⟨rfl, HBW.out.trans (HBI.out.mono HBW.out.size)⟩
    · have hne : (readE ps = 0) = False := eq_false h0
      generalize readE ps = E at *
      go_wp2_with (first
        | (have h := HSL.out; clear HSL; go_at_call 19; refine (h _).mono ?_; clear h; rintro e w2 ⟨rfl, hb2⟩; have HB2 := Lib.hid (HB1.out.trans (hb2.mono HB1.out.size)); have b0 := cell_keep hb2 b0; clear hb2)
        | (have h := HCK2.out; clear HCK2; go_at_call 23; refine (h _ HB2.out).mono ?_; clear h; rintro e w3 ⟨rfl, hb3⟩; have HB3 := Lib.hid (HB2.out.trans (hb3.mono HB2.out.size)); clear hb3))
      go_ret
      exact ⟨rfl, HB3.out⟩
  · have hsl0 : slimB ps.length = false := by simpa using hsl
    rw [hsl0] at HSL
    clear hsl hsl0
    go_wp2_with (have h := HSL.out; clear HSL; go_at_call 19; refine (h _).mono ?_; clear h; rintro e w2 ⟨rfl, hb2⟩; have HB2 := Lib.hid (HB1.out.trans (hb2.mono HB1.out.size)); clear hb2)
    go_ret
    exact ⟨rfl, HB2.out⟩
set_option maxRecDepth 100000 in
theorem solidNormals_walks : Walks 5 Tryz.f5 := by
  intro H enc W base args ds p hval hA hlt
  rw [Tryz.params5] at hA hval
  obtain ⟨v0, vs0, d0, ds0, p0, q0, hargs, rfl, rfl, ⟨fu0, hf0⟩, r0⟩ := trodAll_cons hA
  obtain ⟨rfl, rfl, rfl⟩ := trodAll_nil r0
  obtain rfl : args = #[v0] := by cases args; simp_all
  obtain ⟨cs0, rfl, -⟩ := okWide_struct Tryz.underlying24 (hval 0 24 v0 rfl rfl)
  obtain ⟨x0, a0, c0, hc0, V0, C0, M0, -⟩ := Cell.open_ hf0
  have hd0 : cs0 = #[.slice a0 x0.planes.length c0] := by
    cases cs0; simpa [Value.cells] using hc0
  subst hd0
  exact walkSolidNormals x0 a0 c0 W V0 (by unfold maxLen at M0; omega) C0

set_option maxRecDepth 100000 in
theorem solidNormals_holds : Rows.SolidNormalsSaid :=
  law_holds (s := Rows.solidNormalsSpec) (c := Rows.solidNormalsRow) 5 Tryz.f5 rfl
    (fun H ds h => by match ds, h with | [_], _ => rfl) (by kernel_rfl) (by kernel_rfl)
    rfl rfl rfl rfl rfl rfl rfl ⟨rfl, rfl, rfl, rfl, rfl⟩ rfl rfl rfl rfl rfl rfl rfl rfl rfl rfl (fun _ _ => rfl) (by kernel_rfl) Tryz.func5
    solidNormals_closed (of_decide_eq_true (by kernel_rfl)) (by unfold Func.isWrapper; first | (rw [if_pos (by decide +kernel)]; kernel_rfl) | (rw [if_neg (by decide +kernel)]; exact ⟨rfl, rfl⟩)) (by kernel_rfl)
    (fun H enc os => ChangeSpec.witness6 (enc := enc) (C := Tryz.checked) false ⟨#[], #[.agg #[.slice none 0 0]], []⟩ 8 (by kernel_rfl) (by kernel_rfl) (by kernel_rfl) (by kernel_rfl))
    solidNormals_walks
end Go.Proofs.YtbhgkadklklmbaaGreat
