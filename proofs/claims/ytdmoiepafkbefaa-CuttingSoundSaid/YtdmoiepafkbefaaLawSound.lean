/- CuttingSound returns true for every input: the places of an accepted plan lie in the usable rectangles, on sound wood, overlap nowhere, and are at least a kerf apart. No condition. -/
import Derived.Test.YtdmoiepafkbefaaPLA
import Derived.Test.YtdmoiepafkbefaaFactsSound
set_option linter.unusedVariables false
set_option linter.unusedSimpArgs false
namespace Go.Proofs.Ytdmoiepafkbefaa
open Go Go.ChangeShapes Go.WideShapes Go.ChangeAt Go.RowKit

theorem planPost2_out {w w' : World} {pb pl x1 y1 x2 y2 E : Int} {e : Ending} (h : PlanPost2 w (⟨pb, pl, ⟨x1, y1, x2, y2⟩⟩, E) e w') : e = .returned (.tuple #[.agg #[.int .i64 pb, .int .i64 pl, .int .i64 x1, .int .i64 y1, .int .i64 x2, .int .i64 y2], .int .i64 E]) ∧ Below w.heap.size w w' := h
theorem rectErrS_is (r : Rect) (w : World) {v : Int} (h : rectErr r = v) : Calls Try.prog 21 #[.agg #[.int .i64 r.x1, .int .i64 r.y1, .int .i64 r.x2, .int .i64 r.y2]] w fun e w' => e = .returned (.int .i64 v) ∧ Below w.heap.size w w' := by subst h; exact rectErr_any r w
theorem insideS_is (r q : Rect) (w : World) {v : Bool} (h : insideB r q = v) : Calls Try.prog 22 #[.agg #[.int .i64 r.x1, .int .i64 r.y1, .int .i64 r.x2, .int .i64 r.y2], .agg #[.int .i64 q.x1, .int .i64 q.y1, .int .i64 q.x2, .int .i64 q.y2]] w fun e w' => e = .returned (.bool v) ∧ Below w.heap.size w w' := by subst h; exact inside_any r q w
theorem overlapsS_is (r q : Rect) (w : World) {v : Bool} (h : overlapsB r q = v) : Calls Try.prog 25 #[.agg #[.int .i64 r.x1, .int .i64 r.y1, .int .i64 r.x2, .int .i64 r.y2], .agg #[.int .i64 q.x1, .int .i64 q.y1, .int .i64 q.x2, .int .i64 q.y2]] w fun e w' => e = .returned (.bool v) ∧ Below w.heap.size w w' := by subst h; exact refOverlaps_any r q w
theorem isSoundS_is (b : Board) (r : Rect) (a : Option Addr) (c : Nat) (w : World) {v : Bool} (h : soundB b.defects r = v) (hv : Rects.V w a b.defects) (hl : b.defects.length ≤ 9223372036854775807) :
    Calls Try.prog 24 #[.agg #[.string b.name, .string b.species, .int .i64 b.length, .int .i64 b.width, .int .i64 b.thick, .int .i64 b.cut, .int .i64 b.moisture, .slice a b.defects.length c], .agg #[.int .i64 r.x1, .int .i64 r.y1, .int .i64 r.x2, .int .i64 r.y2]] w fun e w' => e = .returned (.bool v) ∧ Below w.heap.size w w' := by subst h; exact isSound_any b r a c w hv hl
structure RectC (W : World) (g : Nat) (r : Rect) : Prop where
  c0 : W.cell? ⟨g, 0, none⟩ = some (.int .i64 r.x1)
  c1 : W.cell? ⟨g, 1, none⟩ = some (.int .i64 r.y1)
  c2 : W.cell? ⟨g, 2, none⟩ = some (.int .i64 r.x2)
  c3 : W.cell? ⟨g, 3, none⟩ = some (.int .i64 r.y2)
theorem RectC.keep {W W' : World} {g : Nat} {r : Rect} (h : RectC W g r) (hb : Below W.heap.size W W') : RectC W' g r := ⟨cell_keep hb h.c0, cell_keep hb h.c1, cell_keep hb h.c2, cell_keep hb h.c3⟩
theorem CellsBd.keep3 {W W' : World} {g : Nat} {b : Board} {ad : Option Addr} {cd : Nat} (h : CellsBd W g 0 b ad cd) (hb : Below W.heap.size W W') : CellsBd W' g 0 b ad cd := h.keep hb
def SoundCut (W0 : World) (b : Board) (ad : Option Addr) (cd : Nat) (r : Rect) (u : Nat → Value) (W : World) : Prop := ∃ g5 g6 : Nat, u 10 = .pointer (some ⟨g5, 0, none⟩) ∧ u 11 = .pointer (some ⟨g6, 0, none⟩) ∧ CellsBd W g5 0 b ad cd ∧ RectC W g6 r ∧ Below W0.heap.size W0 W
theorem SoundCut.mk {W0 W : World} {g5 g6 : Nat} {b : Board} {ad : Option Addr} {cd : Nat} {r : Rect} {u : Nat → Value} (h1 : u 10 = .pointer (some ⟨g5, 0, none⟩)) (h2 : u 11 = .pointer (some ⟨g6, 0, none⟩)) (h3 : CellsBd W g5 0 b ad cd) (h4 : RectC W g6 r) (h5 : Below W0.heap.size W0 W) : SoundCut W0 b ad cd r u W := ⟨g5, g6, h1, h2, h3, h4, h5⟩
def ApartCut (W0 : World) (ap : Bool) (u : Nat → Value) (W : World) : Prop := u 14 = .bool ap ∧ W = W0
def apartB (kerf : Int) (r o : Rect) : Bool := decide (r.x1 - o.x2 ≥ kerf) || (decide (o.x1 - r.x2 ≥ kerf) || (decide (r.y1 - o.y2 ≥ kerf) || decide (o.y1 - r.y2 ≥ kerf)))
theorem apart_B {kerf : Int} {r o : Rect} (h : apart kerf o r) : apartB kerf r o = true := by
  unfold apart at h
  unfold apartB
  simp only [Bool.or_eq_true, decide_eq_true_eq]
  omega
theorem apart_over {kerf : Int} {r o : Rect} (hk : 0 ≤ kerf) (h : apart kerf o r) : overlapsB r o = false := by
  unfold apart at h
  unfold overlapsB
  simp only [Bool.and_eq_false_iff, decide_eq_false_iff_not]
  omega
theorem within_inside {r q : Rect} (h : within r q) : insideB r q = true ∧ rectErr r = 0 := by
  unfold within at h
  refine ⟨?_, ?_⟩
  · unfold insideB
    simp only [Bool.and_eq_true, decide_eq_true_eq]
    omega
  · unfold rectErr
    rw [if_neg (by omega)]
/-- What the law asks of a place. -/
structure PlaceS (j : Job) (p : Placed) : Prop where
  inn : PieceIn j p
  near : near p.at_
theorem withinB_yes {n lo hi : Int} (h : lo ≤ n ∧ n ≤ hi) : withinB n lo hi = true := by unfold withinB; rw [decide_eq_true h.1, decide_eq_true h.2]; rfl
set_option maxRecDepth 100000 in
set_option maxHeartbeats 16000000 in
theorem walkCuttingSound (j : Job) (ja1 : Option Addr) (jc1 : Nat) (ja2 : Option Addr) (jc2 : Nat) (plana : Option Addr) (plan : List Layout) (planc : Nat) (w : World) (VSj : Boards.V w ja1 j.stock) (LSj : j.stock.length ≤ 9223372036854775807) (CSj : j.stock.length ≤ jc1) (VBj : Blanks.V w ja2 j.blanks) (LBj : j.blanks.length ≤ 9223372036854775807) (CBj : j.blanks.length ≤ jc2) (WTj : j.trim.wf) (Vplan : Layouts.V w plana plan) (Lplan : plan.length ≤ 9223372036854775807) (Cplan : plan.length ≤ planc) :
    Calls Try.prog 4 #[.agg #[.slice ja1 j.stock.length jc1, .slice ja2 j.blanks.length jc2, .int .i64 j.trim.kerf, .int .i64 j.trim.ends, .int .i64 j.trim.sides], .slice plana plan.length planc] w fun e w' => e = .returned (.bool true) ∧ Below w.heap.size w w' := by
  have HVS := Lib.hid VSj
  have HVB := Lib.hid VBj
  have HPV := Lib.hid Vplan
  clear VSj VBj Vplan
  go_enter Try.func4, Try.ntmps4
  go_upto_region 1 with fail
  refine gen_world (fun W => JB W w.heap.size j ja1 jc1 ja2 jc2 ∧ Below w.heap.size w W ∧ w.heap.size < W.heap.size) ⟨⟨by simp, by simp, by simp, by simp, by simp⟩, (Below.refl _ _).alloc (Nat.le_refl _) _, by simp⟩ ?_
  rintro W ⟨hC, hbW, hzW⟩
  obtain ⟨gj, hgj⟩ : ∃ g, g = w.heap.size := ⟨_, rfl⟩
  rw [← hgj] at hC ⊢
  have HGJ := Lib.hid (show w.heap.size ≤ gj by omega)
  have hzG : gj < W.heap.size := by omega
  have HC := Lib.hid hC
  have HBW := Lib.hid (show Below w.heap.size w W from hbW)
  have HZW := Lib.hid (show w.heap.size ≤ W.heap.size by omega)
  clear hC hbW hzW hgj
  go_upto_region 3 with (go_at_call 6; refine (awake_any _).mono ?_; rintro e w1 ⟨rfl, hb1⟩; have HB1 := Lib.hid hb1; clear hb1)
  have HC1 := Lib.hid (HC.out.keep HB1.out hzG)
  have HBW1 := Lib.hid (HBW.out.trans (HB1.out.mono HZW.out))
  have hzw1 : gj < w1.heap.size := Nat.lt_of_lt_of_le hzG HB1.out.size
  clear HC HBW HB1 hzG HZW
  obtain ⟨k0, k1, k2, k3, k4⟩ := HC1.out
  cases hsm : smallB j
  · have HSM := Lib.hid hsm
    clear hsm
    go_wp2_with (go_at_call 15; refine (small_is j ja1 jc1 ja2 jc2 _ HSM.out (HVS.out.keep HBW1.out) LSj (HVB.out.keep HBW1.out) LBj).mono ?_; rintro e w2 ⟨rfl, hb⟩; have HB2 := Lib.hid (HBW1.out.trans (hb.mono HBW1.out.size)); clear hb)
    go_ret
    exact ⟨rfl, HB2.out⟩
  have HSM := Lib.hid hsm
  clear hsm
  cases hbr : briefsB plan
  · have HBR := Lib.hid hbr
    clear hbr
    go_wp2_with (first
      | (go_at_call 15; refine (small_is j ja1 jc1 ja2 jc2 _ HSM.out (HVS.out.keep HBW1.out) LSj (HVB.out.keep HBW1.out) LBj).mono ?_; rintro e w2 ⟨rfl, hb⟩; have HB2 := Lib.hid (HBW1.out.trans (hb.mono HBW1.out.size)); clear hb)
      | (go_at_call 16; refine (briefs_is plan plana planc _ HBR.out (HPV.out.keep HB2.out) Lplan).mono ?_; rintro e w3 ⟨rfl, hb⟩; have HB3 := Lib.hid (HB2.out.trans (hb.mono HB2.out.size)); clear hb))
    go_ret
    exact ⟨rfl, HB3.out⟩
  have HBR := Lib.hid hbr
  obtain ⟨hpl, hcu⟩ := briefs_len hbr
  have hpl2 : plan.length ≤ 1000 := by omega
  have hcu2 : ∀ l ∈ plan, l.cuts.length ≤ 100000 := fun l hl => by have := hcu l hl; omega
  have HQ1 := Lib.hid (fun w9 hs hb hp => checkPlan_any j plan ja1 jc1 ja2 jc2 plana planc w9 hs LSj hb LBj hp hpl2 hcu2)
  have HQ2 := Lib.hid (fun w9 hs hb hp => placesP_any j plan ja1 jc1 ja2 jc2 plana planc w9 hs LSj hb LBj hp hpl2 hcu2)
  have HPP := Lib.hid (fun h : (planE2 j plan).2 = 0 => And.intro (plan_parts h) (plan_sound h))
  obtain ⟨q, hq⟩ : ∃ q, planE2 j plan = q := ⟨_, rfl⟩
  rw [hq] at HQ1 HQ2 HPP
  obtain ⟨⟨pb, pl, ⟨x1, y1, x2, y2⟩⟩, E⟩ := q
  clear hbr hcu hcu2 hq
  go_upto_region 5 with (first
    | (go_at_call 15; refine (small_is j ja1 jc1 ja2 jc2 _ HSM.out (HVS.out.keep HBW1.out) LSj (HVB.out.keep HBW1.out) LBj).mono ?_; rintro e w2 ⟨rfl, hb⟩; have HB2 := Lib.hid (HBW1.out.trans (hb.mono HBW1.out.size)); have HC2 := Lib.hid (HC1.out.keep hb hzw1); have hz2 := hb.size; clear hb)
    | (go_at_call 16; refine (briefs_is plan plana planc _ HBR.out (HPV.out.keep HB2.out) Lplan).mono ?_; rintro e w3 ⟨rfl, hb⟩; have HB3 := Lib.hid (HB2.out.trans (hb.mono HB2.out.size)); have HC3 := Lib.hid (HC2.out.keep hb (by omega)); have hz3 := hb.size; clear hb))
  have hzw3 : gj < w3.heap.size := by omega
  clear k0 k1 k2 k3 k4 HC1 HBW1 HB2 HC2 hz2 hz3 hzw1
  obtain ⟨k0, k1, k2, k3, k4⟩ := HC3.out
  go_upto_region 6 with (go_at_call 17; refine (HQ1.out _ (HVS.out.keep HB3.out) (HVB.out.keep HB3.out) (HPV.out.keep HB3.out)).mono ?_; rintro e w4 h; obtain ⟨rfl, hb⟩ := planPost2_out h; have HB4 := Lib.hid (HB3.out.trans (hb.mono HB3.out.size)); have HC4 := Lib.hid (HC3.out.keep hb hzw3); have hz4 := hb.size; clear hb h)
  refine gen_world (fun W5 => Below w4.heap.size w4 W5) (by repeat (first | (with_reducible assumption) | exact Below.refl _ _ | (refine Below.setCell ?_ (by first | omega | (simp; omega) | (simp; done)) _) | (refine Below.alloc ?_ (by first | omega | (simp; omega) | (simp; done)) _) | (refine Below.drew ?_))) ?_
  rintro W5 hb5
  have HB5 := Lib.hid (HB4.out.trans (hb5.mono HB4.out.size))
  have HC5 := Lib.hid (HC4.out.keep hb5 (by omega))
  have hzw5 : gj < W5.heap.size := by have := hb5.size; omega
  clear k0 k1 k2 k3 k4 HC3 HC4 HB3 HB4 hb5 hz4 hzw3
  by_cases hE0 : ¬ E = 0
  · have hnE := bne_t5 hE0
    go_wp2_with fail
    go_ret
    exact ⟨rfl, HB5.out⟩
  obtain rfl : E = 0 := Decidable.not_not.1 hE0
  clear hE0
  obtain ⟨⟨hej, hlay, -⟩, hln, hin, hpw⟩ := HPP.out rfl
  have HJO := Lib.hid (jobOk_of hej)
  have HS := Lib.hid (show ∀ p ∈ placesM j plan, PlaceS j p from fun p hp => ⟨hin p hp, (placesTo_ok hej (layGo_ok hlay) plan.length (Nat.le_refl _) p hp).2.2⟩)
  have HLN := Lib.hid hln
  have HPW := Lib.hid hpw
  have HLP := Lib.hid (show (placesM j plan).length ≤ 400000 by have h := placesTo_len hej (layGo_ok hlay) plan.length (Nat.le_refl _); unfold placesM; omega)
  generalize placesM j plan = L at *
  clear hej hlay hln hin hpw HPP HQ1
  obtain ⟨k0, k1, k2, k3, k4⟩ := HC5.out
  go_upto_region 9 with (go_at_call 18; refine (HQ2.out _ (HVS.out.keep HB5.out) (HVB.out.keep HB5.out) (HPV.out.keep HB5.out)).mono ?_; rintro e w6 ⟨a6, n6, c6, rfl, hb, -, h7⟩; have HB6 := Lib.hid (HB5.out.trans (hb.mono HB5.out.size)); have HC6 := Lib.hid (HC5.out.keep hb hzw5); have hz6 := hb.size; have HE7 := Lib.hid h7; clear hb h7)
  obtain ⟨hn6, hv6⟩ := HE7.out (by first | trivial | rfl)
  subst hn6
  have HV6 := Lib.hid hv6
  have hzw6 : gj < w6.heap.size := by omega
  clear k0 k1 k2 k3 k4 HC5 HB5 hz6 hzw5 hv6 HE7 HQ2
  have hlnE : ∀ m : Int, (L.length : Int) = m → ((L.length : Int) != m) = false := fun m h => by rw [h]; simp
  have hlnF := hlnE _ HLN.out
  clear hlnE
  obtain ⟨k0, k1, k2, k3, k4⟩ := HC6.out
  go_wp2_with (go_at_call 19; refine (pieces_any ja2 j.blanks jc2 _ (HVB.out.keep HB6.out) HJO.out.lenB (fun x hx => (HJO.out.want x hx).2)).mono ?_; rintro e w7 ⟨rfl, hb⟩; have HB7 := Lib.hid (HB6.out.trans (hb.mono HB6.out.size)); have HC7 := Lib.hid (HC6.out.keep hb hzw6); have hz7 := hb.size; have HV7 := Lib.hid (HV6.out.keep hb); clear hb)
  have hzw7 : gj < w7.heap.size := by omega
  clear k0 k1 k2 k3 k4 HC6 HB6 hz7 hzw6 HV6 hlnF HLN
  obtain ⟨AD, CD, hSC⟩ := stock_ch HVS.out
  have HSC := Lib.hid hSC
  have hLS := HJO.out.lenS
  have hLB := HJO.out.lenB
  have hLP := HLP.out
  have u1 : IntKind.i64.wrap ((j.stock.length : Int) - 1) = (j.stock.length : Int) - 1 := IntWalk.i64_in _ (by omega)
  have u2 : IntKind.i64.wrap ((j.blanks.length : Int) - 1) = (j.blanks.length : Int) - 1 := IntWalk.i64_in _ (by omega)
  have hmix : Try.prog.follows .mixedOrders = true := by kernel_rfl
  clear hSC
  go_loopw [9] (fun iv wr => ∃ k : Nat, k ≤ L.length ∧ iv = .int .i64 k ∧ Below w7.heap.size w7 wr) (fun iv _ => L.length - (intOf iv).toNat)
  case atStart => exact ⟨0, Nat.zero_le _, rfl, Below.refl _ _⟩
  case round =>
    obtain ⟨k, hk, rfl, hbr⟩ := hrel
    obtain ⟨wo, rfl⟩ : ∃ wo : World, wo = wr := ⟨_, rfl⟩
    have HBO := Lib.hid (HB7.out.trans (hbr.mono HB7.out.size))
    have HBR7 := Lib.hid hbr
    have HCO := Lib.hid (HC7.out.keep hbr hzw7)
    have hzo : gj < wo.heap.size := by have := hbr.size; omega
    have HVO := Lib.hid (HV7.out.keep hbr)
    clear hbr
    by_cases hlt : k < L.length
    · have hki : (k : Int) < (L.length : Int) := by omega
      have v1 : IntKind.i64.wrap ((k : Int) + 1) = (k : Int) + 1 := IntWalk.i64_in _ (by omega)
      obtain ⟨gP, offP, haP, ⟨x0, x1⟩, ⟨x2, x3⟩, x4, x5⟩ := HVO.out.at_ hlt
      have HSP := Lib.hid (HS.out _ (List.getElem_mem hlt))
      have HPK := Lib.hid (show ∀ i (hi : i < k), L[i].board = L[k].board → apart j.trim.kerf L[i].at_ L[k].at_ from fun i hi => List.pairwise_iff_getElem.1 HPW.out i k (by omega) hlt hi)
      obtain ⟨p, hp⟩ : ∃ p, L[k] = p := ⟨_, rfl⟩
      rw [hp] at x0 x1 x2 x3 x4 x5 HSP HPK
      obtain ⟨pb', pl', r⟩ := p
      have HPI := Lib.hid HSP.out.inn
      obtain ⟨nb, hnb⟩ : ∃ n : Nat, pb' = n := ⟨pb'.toNat, by have := HPI.out.board.1; simp only at this; omega⟩
      obtain ⟨nl, hnl⟩ : ∃ n : Nat, pl' = n := ⟨pl'.toNat, by have := HPI.out.blank.1; simp only at this; omega⟩
      subst hnb hnl
      have hnbs : nb < j.stock.length := by have := HPI.out.board.2; simp only at this; omega
      have hnls : nl < j.blanks.length := by have := HPI.out.blank.2; simp only at this; omega
      have hbi : (nb : Int) < (j.stock.length : Int) := by omega
      have hli : (nl : Int) < (j.blanks.length : Int) := by omega
      have HNR := Lib.hid HSP.out.near
      have hgd : (j.stock.getD nb default) = j.stock[nb] := by rw [List.getD_eq_getElem?_getD, List.getElem?_eq_getElem hnbs]; rfl
      have hgl : bl j.blanks nl = j.blanks[nl] := by unfold bl; rw [List.getD_eq_getElem?_getD, List.getElem?_eq_getElem hnls]; rfl
      have hsz := HPI.out.size
      have hso := HPI.out.sound
      have hii := HPI.out.inside
      simp only [Int.toNat_natCast] at hsz hso hii
      rw [hgd] at hso hii
      rw [hgl] at hsz
      obtain ⟨⟨gs, off, has, hcb⟩, hrv, hdl, hdm, hbwf⟩ := HSC.out.ch nb _ (List.getElem?_eq_getElem hnbs)
      obtain ⟨gl, off', hal, hcl⟩ := blank_row (HVB.out.keep HBO.out) hnls
      have hcb := hcb.keep HBO.out
      have HRV := Lib.hid (hrv.keep HBO.out)
      have HDL := Lib.hid (show j.stock[nb].defects.length ≤ 9223372036854775807 by unfold maxLen at hdm; omega)
      have hdsz := HJO.out.size _ (List.getElem_mem hnbs)
      have HSZ := Lib.hid hsz
      have HSO := Lib.hid hso
      have HII := Lib.hid hii
      clear hsz hso hii hgd hgl hrv hdl hdm hbwf HPI HSP hp
      subst has
      subst hal
      subst haP
      obtain ⟨k0, k1, k2, k3, k4⟩ := HCO.out
      obtain ⟨s0, s1, s2, s3, s4, s5, s6, s7⟩ := hcb
      have t2 := hcl.c2
      generalize AD nb = ad at *
      generalize CD nb = cd at *
      generalize j.stock[nb] = b at *
      generalize j.blanks[nl] = x at *
      simp only at x0 x1 x2 x3 x4 x5
      clear hcl
      have HW1 := Lib.hid (withinB_yes (n := (nb : Int)) (lo := 0) (hi := (j.stock.length : Int) - 1) (by omega))
      have HW2 := Lib.hid (withinB_yes (n := (nl : Int)) (lo := 0) (hi := (j.blanks.length : Int) - 1) (by omega))
      go_upto_region 14 with fail
      have kx0 : ∀ y : (KW (fun W' => Below wo.heap.size wo W')), (y.w.cell? ⟨gj, 0, none⟩ = some (.slice (some ⟨gs, off, none⟩) j.stock.length jc1) ∧ y.w.cell? ⟨gj, 1, none⟩ = some (.slice (some ⟨gl, off', none⟩) j.blanks.length jc2)) ∧ y.w.cell? ⟨gP, offP + k * 6, none⟩ = some (.int .i64 nb) ∧ y.w.cell? ⟨gP, offP + k * 6 + 1, none⟩ = some (.int .i64 nl) := fun y => ⟨⟨cell_keep y.ok k0, cell_keep y.ok k1⟩, cell_keep y.ok x0, cell_keep y.ok x1⟩
      have HK := Lib.hid (And.intro (And.intro (And.intro k0 k1) (And.intro k2 (And.intro k3 k4))) (And.intro (And.intro x0 x1) (And.intro (And.intro x2 x3) (And.intro x4 x5))))
      have HSS := Lib.hid (CellsBd.mk s0 s1 s2 s3 s4 s5 s6 s7)
      have HT := Lib.hid t2
      clear k0 k1 k2 k3 k4 x0 x1 x2 x3 x4 x5 s0 s1 s2 s3 s4 s5 s6 s7 t2
      haveI n1 : Nonempty (KW (fun W' => Below wo.heap.size wo W')) := ⟨⟨wo, Below.refl _ _⟩⟩
      refine wp_region_tree (fun w' => ∃ y : (KW (fun W' => Below wo.heap.size wo W')), w' = y.w) 21 (.take 0 (.take 1 (.take 2 (.take 3 (.take 4 (.take 5 (.take 6 (.take 7 (.take 8 (.one 9 (.take 10 (.take 11 (.take 12 (.take 13 (.take 14 (.take 15 (.take 16 (.take 17 (.take 18 (.take 19 (.take 20 .done))))))))))))))))))))) hmix (by kernel_rfl) (KW.mk' (Below.refl _ _).drew) ?_
      have hB0 : Below wo.heap.size wo wo.drew := (Below.refl _ _).drew
      generalize wo.drew = w8 at *
      have HB8 := Lib.hid hB0
      clear hB0
      repeat (refine wpTree_take ?_; simp only [nthOp]; (first | go_big_quiet_step (fail) | quiet_step (fail)); refine wpQuiet_nil ?_)
      refine wpTree_one ?_
      simp only [nthOp]
      go_wp2_with (go_at_call 20; refine (baseWithin_is _ _ _ _ HW1.out).mono ?_; rintro e w' ⟨rfl, rfl⟩)
      refine One_mk (KW.mk' HB8.out) ?_
      repeat (refine wpTree_take ?_; simp only [nthOp]; (first | go_big_quiet_step (fail) | quiet_step (fail)); refine wpQuiet_nil ?_)
      refine wpTree_done ?_
      simp only [List.drop_succ_cons, List.drop_zero]
      go_wp2_with (go_at_call 20; refine (baseWithin_is _ _ _ _ HW2.out).mono ?_; rintro e w' ⟨rfl, rfl⟩)
      refine NP_mk ?_
      clear kx0 n1
      obtain ⟨⟨⟨k0, k1⟩, k2, k3, k4⟩, ⟨x0, x1⟩, ⟨x2, x3⟩, x4, x5⟩ := HK.out
      obtain ⟨s0, s1, s2, s3, s4, s5, s6, s7⟩ := HSS.out
      have k0 := cell_keep HB8.out k0
      have k1 := cell_keep HB8.out k1
      have k2 := cell_keep HB8.out k2
      have k3 := cell_keep HB8.out k3
      have k4 := cell_keep HB8.out k4
      have x0 := cell_keep HB8.out x0
      have x1 := cell_keep HB8.out x1
      have x2 := cell_keep HB8.out x2
      have x3 := cell_keep HB8.out x3
      have x4 := cell_keep HB8.out x4
      have x5 := cell_keep HB8.out x5
      have s0 := cell_keep HB8.out s0
      have s1 := cell_keep HB8.out s1
      have s2 := cell_keep HB8.out s2
      have s3 := cell_keep HB8.out s3
      have s4 := cell_keep HB8.out s4
      have s5 := cell_keep HB8.out s5
      have s6 := cell_keep HB8.out s6
      have s7 := cell_keep HB8.out s7
      have t2 := cell_keep HB8.out HT.out
      have HK8 := Lib.hid (And.intro (And.intro (And.intro k0 k1) (And.intro k2 (And.intro k3 k4))) (And.intro (And.intro x0 x1) t2))
      clear HK HSS HT
      go_upto_region 16 with fail
      refine wp_cut_slots [10, 11, 79, 80, 81, 82, 83, 84, 85, 86, 87, 88, 89, 90, 91, 92] (SoundCut w8 b ad cd r) ?_ ?_
      · have kx0 : ∀ y : (KW (fun W' => Below w8.heap.size w8 W')), (y.w.cell? ⟨gj, 0, none⟩ = some (.slice (some ⟨gs, off, none⟩) j.stock.length jc1) ∧ y.w.cell? ⟨gP, offP + k * 6, none⟩ = some (.int .i64 nb)) := fun y => ⟨cell_keep y.ok k0, cell_keep y.ok x0⟩
        have kx1 : ∀ y : (KW (fun W' => Below w8.heap.size w8 W')), (y.w.cell? ⟨gP, offP + k * 6 + 2, none⟩ = some (.int .i64 r.x1) ∧ y.w.cell? ⟨gP, offP + k * 6 + 3, none⟩ = some (.int .i64 r.y1)) ∧ y.w.cell? ⟨gP, offP + k * 6 + 4, none⟩ = some (.int .i64 r.x2) ∧ y.w.cell? ⟨gP, offP + k * 6 + 5, none⟩ = some (.int .i64 r.y2) := fun y => ⟨⟨cell_keep y.ok x2, cell_keep y.ok x3⟩, cell_keep y.ok x4, cell_keep y.ok x5⟩
        have kx2 : ∀ y : (KW (fun W' => Below w8.heap.size w8 W')), (y.w.cell? ⟨gs, off + nb * 8, none⟩ = some (.string b.name) ∧ y.w.cell? ⟨gs, off + nb * 8 + 1, none⟩ = some (.string b.species)) ∧ y.w.cell? ⟨gs, off + nb * 8 + 2, none⟩ = some (.int .i64 b.length) ∧ y.w.cell? ⟨gs, off + nb * 8 + 3, none⟩ = some (.int .i64 b.width) := fun y => ⟨⟨cell_keep y.ok s0, cell_keep y.ok s1⟩, cell_keep y.ok s2, cell_keep y.ok s3⟩
        have kx3 : ∀ y : (KW (fun W' => Below w8.heap.size w8 W')), (y.w.cell? ⟨gs, off + nb * 8 + 4, none⟩ = some (.int .i64 b.thick) ∧ y.w.cell? ⟨gs, off + nb * 8 + 5, none⟩ = some (.int .i64 b.cut)) ∧ y.w.cell? ⟨gs, off + nb * 8 + 6, none⟩ = some (.int .i64 b.moisture) ∧ y.w.cell? ⟨gs, off + nb * 8 + 7, none⟩ = some (.slice ad b.defects.length cd) := fun y => ⟨⟨cell_keep y.ok s4, cell_keep y.ok s5⟩, cell_keep y.ok s6, cell_keep y.ok s7⟩
        clear k0 k1 k2 k3 k4 x0 x1 x2 x3 x4 x5 s0 s1 s2 s3 s4 s5 s6 s7 t2
        haveI n1 : Nonempty (KW (fun W' => Below w8.heap.size w8 W')) := ⟨⟨w8, Below.refl _ _⟩⟩
        refine wp_region_tree (fun w' => ∃ y : (KW (fun W' => Below w8.heap.size w8 W')), w' = y.w) 17 (.take 0 (.take 1 (.take 2 (.take 3 (.take 4 (.take 5 (.take 6 (.take 7 (.take 8 (.take 9 (.take 10 (.take 11 (.take 12 (.take 13 (.two 14 (.one 15 (.one 16 .done)) 15 (.one 14 (.one 16 .done))))))))))))))))) hmix (by kernel_rfl) (KW.mk' (Below.refl _ _).drew) ?_
        have hB0 : Below w8.heap.size w8 w8.drew := (Below.refl _ _).drew
        have hz0 : w8.heap.size ≤ w8.drew.heap.size := Nat.le_refl _
        generalize w8.drew = w0 at *
        repeat (refine wpTree_take ?_; simp only [nthOp]; (first | go_big_quiet_step (fail) | quiet_step (fail)); refine wpQuiet_nil ?_)
        refine wpTree_two ?_ ?_
        · simp only [nthOp]
          go_wp2_with fail
          refine One_mk (KW.mk' (by repeat (first | (with_reducible assumption) | exact Below.refl _ _ | (refine Below.setCell ?_ (by first | omega | (simp; omega) | (simp; done)) _) | (refine Below.alloc ?_ (by first | omega | (simp; omega) | (simp; done)) _) | (refine Below.drew ?_)))) (wpTree_one ?_)
          simp only [nthOp]
          go_wp2_with fail
          refine One_mk (KW.mk' (by repeat (first | (with_reducible assumption) | exact Below.refl _ _ | (refine Below.setCell ?_ (by first | omega | (simp; omega) | (simp; done)) _) | (refine Below.alloc ?_ (by first | omega | (simp; omega) | (simp; done)) _) | (refine Below.drew ?_)))) (wpTree_one ?_)
          simp only [nthOp]
          go_wp2_with fail
          refine One_mk (KW.mk' (by repeat (first | (with_reducible assumption) | exact Below.refl _ _ | (refine Below.setCell ?_ (by first | omega | (simp; omega) | (simp; done)) _) | (refine Below.alloc ?_ (by first | omega | (simp; omega) | (simp; done)) _) | (refine Below.drew ?_)))) (wpTree_done ?_)
          simp only [List.drop_succ_cons, List.drop_zero]
          go_wp2_with fail
          refine NP_mk ?_
          exact cut_meet (by simp [forget]) (SoundCut.mk (g5 := w0.heap.size) (g6 := w0.heap.size + 1) rfl rfl ⟨by simp [go_sem], by simp [go_sem], by simp [go_sem], by simp [go_sem], by simp [go_sem], by simp [go_sem], by simp [go_sem], by simp [go_sem]⟩ ⟨by simp [go_sem], by simp [go_sem], by simp [go_sem], by simp [go_sem]⟩ (by repeat (first | (with_reducible assumption) | exact Below.refl _ _ | (refine Below.setCell ?_ (by first | omega | (simp; omega) | (simp; done)) _) | (refine Below.alloc ?_ (by first | omega | (simp; omega) | (simp; done)) _) | (refine Below.drew ?_))))
        · simp only [nthOp]
          go_wp2_with fail
          refine One_mk (KW.mk' (by repeat (first | (with_reducible assumption) | exact Below.refl _ _ | (refine Below.setCell ?_ (by first | omega | (simp; omega) | (simp; done)) _) | (refine Below.alloc ?_ (by first | omega | (simp; omega) | (simp; done)) _) | (refine Below.drew ?_)))) (wpTree_one ?_)
          simp only [nthOp]
          go_wp2_with fail
          refine One_mk (KW.mk' (by repeat (first | (with_reducible assumption) | exact Below.refl _ _ | (refine Below.setCell ?_ (by first | omega | (simp; omega) | (simp; done)) _) | (refine Below.alloc ?_ (by first | omega | (simp; omega) | (simp; done)) _) | (refine Below.drew ?_)))) (wpTree_one ?_)
          simp only [nthOp]
          go_wp2_with fail
          refine One_mk (KW.mk' (by repeat (first | (with_reducible assumption) | exact Below.refl _ _ | (refine Below.setCell ?_ (by first | omega | (simp; omega) | (simp; done)) _) | (refine Below.alloc ?_ (by first | omega | (simp; omega) | (simp; done)) _) | (refine Below.drew ?_)))) (wpTree_done ?_)
          simp only [List.drop_succ_cons, List.drop_zero]
          go_wp2_with fail
          refine NP_mk ?_
          exact cut_meet (by simp [forget]) (SoundCut.mk (g5 := w0.heap.size + 1) (g6 := w0.heap.size) rfl rfl ⟨by simp [go_sem], by simp [go_sem], by simp [go_sem], by simp [go_sem], by simp [go_sem], by simp [go_sem], by simp [go_sem], by simp [go_sem]⟩ ⟨by simp [go_sem], by simp [go_sem], by simp [go_sem], by simp [go_sem]⟩ (by repeat (first | (with_reducible assumption) | exact Below.refl _ _ | (refine Below.setCell ?_ (by first | omega | (simp; omega) | (simp; done)) _) | (refine Below.alloc ?_ (by first | omega | (simp; omega) | (simp; done)) _) | (refine Below.drew ?_))))
      rintro u W9 ⟨g10, g11, hu5, hu6, hcb9, hrc9, hb9⟩
      simp only [forget, List.foldl_cons, List.foldl_nil, hu5, hu6]
      have HB9 := Lib.hid (HB8.out.trans (hb9.mono HB8.out.size))
      have HRV9 := Lib.hid (HRV.out.keep HB9.out)
      clear k0 k1 k2 k3 k4 x0 x1 x2 x3 x4 x5 s0 s1 s2 s3 s4 s5 s6 s7 t2 hu5 hu6
      obtain ⟨⟨⟨k0, k1⟩, k2, k3, k4⟩, ⟨x0, x1⟩, t2⟩ := HK8.out
      have k0 := cell_keep hb9 k0
      have k1 := cell_keep hb9 k1
      have k2 := cell_keep hb9 k2
      have k3 := cell_keep hb9 k3
      have k4 := cell_keep hb9 k4
      have x0 := cell_keep hb9 x0
      have x1 := cell_keep hb9 x1
      have t2 := cell_keep hb9 t2
      have HRC := Lib.hid hrc9
      have HBW9 := Lib.hid (HBO.out.trans (HB9.out.mono HBO.out.size))
      have HB79 := Lib.hid (HBR7.out.trans (HB9.out.mono HBR7.out.size))
      have HCO9 := Lib.hid (show JB W9 gj j _ jc1 _ jc2 from ⟨k0, k1, k2, k3, k4⟩)
      have HX9 := Lib.hid (And.intro x0 x1)
      have hzo9 : gj < W9.heap.size := by have := HB9.out.size; omega
      obtain ⟨s0, s1, s2, s3, s4, s5, s6, s7⟩ := hcb9
      obtain ⟨r0, r1, r2, r3⟩ := hrc9
      simp only [Nat.zero_add] at s0 s1 s2 s3 s4 s5 s6 s7
      clear hb9 HK8 HB9 HCO HVO HBO HBR7 HB8 HRV
      have kx0 : ∀ y : (KW (fun W' => Below W9.heap.size W9 W')), ((y.w.cell? ⟨gj, 2, none⟩ = some (.int .i64 j.trim.kerf) ∧ y.w.cell? ⟨gj, 1, none⟩ = some (.slice (some ⟨gl, off', none⟩) j.blanks.length jc2)) ∧ y.w.cell? ⟨gj, 3, none⟩ = some (.int .i64 j.trim.ends) ∧ y.w.cell? ⟨gj, 4, none⟩ = some (.int .i64 j.trim.sides)) ∧ y.w.cell? ⟨gP, offP + k * 6 + 1, none⟩ = some (.int .i64 nl) ∧ y.w.cell? ⟨gl, off' + nl * 6 + 2, none⟩ = some (.int .i64 x.length) := fun y => ⟨⟨⟨cell_keep y.ok k2, cell_keep y.ok k1⟩, cell_keep y.ok k3, cell_keep y.ok k4⟩, cell_keep y.ok x1, cell_keep y.ok t2⟩
      have kx1 : ∀ y : (KW (fun W' => Below W9.heap.size W9 W')), (y.w.cell? ⟨g11, 0, none⟩ = some (.int .i64 r.x1) ∧ y.w.cell? ⟨g11, 1, none⟩ = some (.int .i64 r.y1)) ∧ y.w.cell? ⟨g11, 2, none⟩ = some (.int .i64 r.x2) ∧ y.w.cell? ⟨g11, 3, none⟩ = some (.int .i64 r.y2) := fun y => ⟨⟨cell_keep y.ok r0, cell_keep y.ok r1⟩, cell_keep y.ok r2, cell_keep y.ok r3⟩
      have kx2 : ∀ y : (KW (fun W' => Below W9.heap.size W9 W')), (y.w.cell? ⟨g10, 0, none⟩ = some (.string b.name) ∧ y.w.cell? ⟨g10, 1, none⟩ = some (.string b.species)) ∧ y.w.cell? ⟨g10, 2, none⟩ = some (.int .i64 b.length) ∧ y.w.cell? ⟨g10, 3, none⟩ = some (.int .i64 b.width) := fun y => ⟨⟨cell_keep y.ok s0, cell_keep y.ok s1⟩, cell_keep y.ok s2, cell_keep y.ok s3⟩
      have kx3 : ∀ y : (KW (fun W' => Below W9.heap.size W9 W')), (y.w.cell? ⟨g10, 4, none⟩ = some (.int .i64 b.thick) ∧ y.w.cell? ⟨g10, 5, none⟩ = some (.int .i64 b.cut)) ∧ y.w.cell? ⟨g10, 6, none⟩ = some (.int .i64 b.moisture) ∧ y.w.cell? ⟨g10, 7, none⟩ = some (.slice ad b.defects.length cd) := fun y => ⟨⟨cell_keep y.ok s4, cell_keep y.ok s5⟩, cell_keep y.ok s6, cell_keep y.ok s7⟩
      clear k0 k1 k2 k3 k4 x0 x1 t2 s0 s1 s2 s3 s4 s5 s6 s7 r0 r1 r2 r3
      haveI n1 : Nonempty (KW (fun W' => Below W9.heap.size W9 W')) := ⟨⟨W9, Below.refl _ _⟩⟩
      have htr := HJO.out.trim
      have HRE := Lib.hid (within_inside HII.out).2
      have HIN := Lib.hid (within_inside HII.out).1
      have HUS := Lib.hid (fun w9 => refUsable_is b j.trim _ ad cd w9 rfl (by omega) (by omega))
      have hnr := HNR.out
      have v5 : IntKind.i64.wrap (r.x2 - r.x1) = x.length := by rw [IntWalk.i64_in _ (by simp only [near] at hnr; omega)]; exact HSZ.out.1
      have hne5 : (x.length != x.length) = false := by simp
      clear hdsz htr hnr
      go_upto_region 17 with fail
      refine wp_region_tree (fun w' => ∃ y : (KW (fun W' => Below W9.heap.size W9 W')), w' = y.w) 34 (.take 0 (.one 1 (.take 2 (.take 3 (.take 4 (.take 5 (.take 6 (.take 7 (.one 8 (.one 9 (.take 10 (.take 11 (.take 12 (.take 13 (.take 14 (.one 15 (.take 16 (.take 17 (.take 18 (.take 19 (.take 20 (.take 21 (.take 22 (.take 23 (.take 24 (.take 25 (.take 26 (.take 27 (.take 28 (.take 29 (.take 30 (.take 31 (.take 32 (.take 33 .done)))))))))))))))))))))))))))))))))) hmix (by kernel_rfl) (KW.mk' (Below.refl _ _).drew) ?_
      have hB0 : Below W9.heap.size W9 W9.drew := (Below.refl _ _).drew
      generalize W9.drew = wa at *
      have HBa := Lib.hid hB0
      clear hB0
      repeat (refine wpTree_take ?_; simp only [nthOp]; (first | go_big_quiet_step (fail) | quiet_step (fail)); refine wpQuiet_nil ?_)
      refine wpTree_one ?_
      simp only [nthOp]
      go_wp2_with (go_at_call 21; refine (rectErrS_is _ _ HRE.out).mono ?_; rintro e wb ⟨rfl, hb⟩; have HBb := Lib.hid (HBa.out.trans (hb.mono HBa.out.size)); clear hb)
      refine One_mk (KW.mk' HBb.out) ?_
      repeat (refine wpTree_take ?_; simp only [nthOp]; (first | go_big_quiet_step (fail) | quiet_step (fail)); refine wpQuiet_nil ?_)
      refine wpTree_one ?_
      simp only [nthOp]
      go_wp2_with (go_at_call 23; refine (HUS.out _).mono ?_; rintro e wc ⟨rfl, hb⟩; have HBc := Lib.hid (HBb.out.trans (hb.mono HBb.out.size)); clear hb)
      refine One_mk (KW.mk' HBc.out) ?_
      refine wpTree_one ?_
      simp only [nthOp]
      go_wp2_with (go_at_call 22; refine (insideS_is _ _ _ HIN.out).mono ?_; rintro e wd ⟨rfl, hb⟩; have HBd := Lib.hid (HBc.out.trans (hb.mono HBc.out.size)); clear hb)
      refine One_mk (KW.mk' HBd.out) ?_
      repeat (refine wpTree_take ?_; simp only [nthOp]; (first | go_big_quiet_step (fail) | quiet_step (fail)); refine wpQuiet_nil ?_)
      refine wpTree_one ?_
      simp only [nthOp]
      go_wp2_with (go_at_call 24; refine (isSoundS_is b r ad cd _ HSO.out (HRV9.out.keep HBd.out) HDL.out).mono ?_; rintro e we ⟨rfl, hb⟩; have HBe := Lib.hid (HBd.out.trans (hb.mono HBd.out.size)); clear hb)
      refine One_mk (KW.mk' HBe.out) ?_
      repeat (refine wpTree_take ?_; simp only [nthOp]; (first | go_big_quiet_step (fail) | quiet_step (fail)); refine wpQuiet_nil ?_)
      refine wpTree_done ?_
      simp only [List.drop_succ_cons, List.drop_zero]
      go_wp2_with fail
      refine NP_mk ?_
      clear kx0 kx1 kx2 kx3 n1 v5 hne5 HBa HBb HBc HBd
      have HCE := Lib.hid (HCO9.out.keep HBe.out hzo9)
      have HRCe := Lib.hid (HRC.out.keep HBe.out)
      have HXe := Lib.hid (And.intro (cell_keep HBe.out HX9.out.1) (cell_keep HBe.out HX9.out.2))
      have HB7e := Lib.hid (HB79.out.trans (HBe.out.mono HB79.out.size))
      have hze : gj < we.heap.size := by have := HBe.out.size; omega
      clear HCO9 HRC HX9 HB79 hzo9 HBe HUS HRE HIN HSO HRV9 HDL
      go_wp2_with fail
      go_loopw [12] (fun iv wr => ∃ i : Nat, i ≤ k ∧ iv = .int .i64 i ∧ Below we.heap.size we wr) (fun iv _ => k - (intOf iv).toNat)
      case atStart => exact ⟨0, Nat.zero_le _, rfl, Below.refl _ _⟩
      case round =>
        obtain ⟨i, hi, rfl, hbi⟩ := hrel
        obtain ⟨wi, rfl⟩ : ∃ wi : World, wi = wr := ⟨_, rfl⟩
        have HBI := Lib.hid hbi
        have HCI := Lib.hid (HCE.out.keep hbi hze)
        have HRI := Lib.hid (HRCe.out.keep hbi)
        have HXI := Lib.hid (And.intro (cell_keep hbi HXe.out.1) (cell_keep hbi HXe.out.2))
        have hb7i := HB7e.out.trans (hbi.mono HB7e.out.size)
        have HB7i := Lib.hid hb7i
        clear hbi
        by_cases hlt2 : i < k
        · have hii2 : (i : Int) < (k : Int) := by omega
          have hiL : i < L.length := by omega
          have hiL2 : (i : Int) < (L.length : Int) := by omega
          have v6 : IntKind.i64.wrap ((i : Int) + 1) = (i : Int) + 1 := IntWalk.i64_in _ (by omega)
          obtain ⟨gP', offP', haP', ⟨y0, y1⟩, ⟨y2, y3⟩, y4, y5⟩ := (HV7.out.keep hb7i).at_ hiL
          injection haP' with haP'
          injection haP' with hg1 hg2 hg3
          subst hg1 hg2
          have HSO2 := Lib.hid (HS.out _ (List.getElem_mem hiL))
          have HPI2 := Lib.hid (HPK.out i hlt2)
          obtain ⟨o, ho⟩ : ∃ o, L[i] = o := ⟨_, rfl⟩
          rw [ho] at y0 y1 y2 y3 y4 y5 HSO2 HPI2
          have hnr := HNR.out
          have hno := HSO2.out.near
          obtain ⟨ob, ol, oR⟩ := o
          simp only at y0 y1 y2 y3 y4 y5 hno HPI2
          have v11 : IntKind.i64.wrap (r.x1 - oR.x2) = r.x1 - oR.x2 := IntWalk.i64_in _ (by simp only [near] at hnr hno; omega)
          have v12 : IntKind.i64.wrap (oR.x1 - r.x2) = oR.x1 - r.x2 := IntWalk.i64_in _ (by simp only [near] at hnr hno; omega)
          have v13 : IntKind.i64.wrap (r.y1 - oR.y2) = r.y1 - oR.y2 := IntWalk.i64_in _ (by simp only [near] at hnr hno; omega)
          have v14 : IntKind.i64.wrap (oR.y1 - r.y2) = oR.y1 - r.y2 := IntWalk.i64_in _ (by simp only [near] at hnr hno; omega)
          obtain ⟨ap, hap⟩ : ∃ ap, apartB j.trim.kerf r oR = ap := ⟨_, rfl⟩
          have HAP := Lib.hid hap
          have hkf := HJO.out.trim.1.1
          have HOV := Lib.hid (fun h => apart_over hkf (HPI2.out h))
          have HAY := Lib.hid (fun h => HAP.out.symm.trans (apart_B (HPI2.out h)))
          clear hnr hno hap ho HSO2 hg3 hkf
          go_upto_region 23 with fail
          refine gen_world (fun W1 => RectC W1 wi.heap.size oR ∧ Below wi.heap.size wi W1) ⟨⟨by simp [go_sem], by simp [go_sem], by simp [go_sem], by simp [go_sem]⟩, by repeat (first | (with_reducible assumption) | exact Below.refl _ _ | (refine Below.setCell ?_ (by first | omega | (simp; omega) | (simp; done)) _) | (refine Below.alloc ?_ (by first | omega | (simp; omega) | (simp; done)) _) | (refine Below.drew ?_))⟩ ?_
          rintro W1 ⟨hrc, hb1⟩
          obtain ⟨g13, hg13⟩ : ∃ g, g = wi.heap.size := ⟨_, rfl⟩
          rw [← hg13] at hrc ⊢
          have HB1 := Lib.hid hb1
          have HY := Lib.hid (And.intro (cell_keep hb1 y0) (cell_keep hb1 HXI.out.1))
          have HR13 := Lib.hid hrc
          have HR11 := Lib.hid (HRI.out.keep hb1)
          obtain ⟨z0, z1, z2, z3⟩ := hrc
          obtain ⟨r0, r1, r2, r3⟩ := HR11.out
          have k2 := (HCI.out.keep hb1 (by have := HBI.out.size; omega)).k
          clear hb1 hg13 y0 y1 y2 y3 y4 y5
          refine wp_cut_slots [14, 139, 140, 141, 142, 143, 144, 145, 146, 147, 148, 149, 150, 151, 152, 153, 154, 155, 156, 157, 158, 159, 160, 161, 162, 163, 164, 165, 166, 167, 168, 169, 170, 171, 172, 173, 174, 175, 176, 177, 178, 179, 180] (ApartCut W1 ap) ?_ ?_
          · by_cases c1 : r.x1 - oR.x2 ≥ j.trim.kerf
            · have e : ap = true := by rw [← HAP.out]; unfold apartB; rw [decide_eq_true c1]; rfl
              subst e
              go_wp2_with fail
              exact cut_meet (by simp [forget]) ⟨rfl, rfl⟩
            by_cases c2 : oR.x1 - r.x2 ≥ j.trim.kerf
            · have e : ap = true := by rw [← HAP.out]; unfold apartB; rw [decide_eq_true c2]; simp
              subst e
              go_wp2_with fail
              exact cut_meet (by simp [forget]) ⟨rfl, rfl⟩
            by_cases c3 : r.y1 - oR.y2 ≥ j.trim.kerf
            · have e : ap = true := by rw [← HAP.out]; unfold apartB; rw [decide_eq_true c3]; simp
              subst e
              go_wp2_with fail
              exact cut_meet (by simp [forget]) ⟨rfl, rfl⟩
            by_cases c4 : oR.y1 - r.y2 ≥ j.trim.kerf
            · have e : ap = true := by rw [← HAP.out]; unfold apartB; rw [decide_eq_true c4]; simp
              subst e
              go_wp2_with fail
              exact cut_meet (by simp [forget]) ⟨rfl, rfl⟩
            · have e : ap = false := by rw [← HAP.out]; unfold apartB; rw [decide_eq_false c1, decide_eq_false c2, decide_eq_false c3, decide_eq_false c4]; rfl
              subst e
              go_wp2_with fail
              exact cut_meet (by simp [forget]) ⟨rfl, rfl⟩
          rintro u W1' ⟨hu, rfl⟩
          simp only [forget, List.foldl_cons, List.foldl_nil, hu, List.setIfInBounds_toArray, List.set_cons_succ, List.set_cons_zero]
          go_upto_region 24 with fail
          have kx0 : ∀ y : (KW (fun W' => Below W1'.heap.size W1' W')), (y.w.cell? ⟨gP, offP + i * 6, none⟩ = some (.int .i64 ob) ∧ y.w.cell? ⟨gP, offP + k * 6, none⟩ = some (.int .i64 nb)) := fun y => ⟨cell_keep y.ok HY.out.1, cell_keep y.ok HY.out.2⟩
          have kx1 : ∀ y : (KW (fun W' => Below W1'.heap.size W1' W')), (y.w.cell? ⟨g11, 0, none⟩ = some (.int .i64 r.x1) ∧ y.w.cell? ⟨g11, 1, none⟩ = some (.int .i64 r.y1)) ∧ y.w.cell? ⟨g11, 2, none⟩ = some (.int .i64 r.x2) ∧ y.w.cell? ⟨g11, 3, none⟩ = some (.int .i64 r.y2) := fun y => ⟨⟨cell_keep y.ok r0, cell_keep y.ok r1⟩, cell_keep y.ok r2, cell_keep y.ok r3⟩
          have kx2 : ∀ y : (KW (fun W' => Below W1'.heap.size W1' W')), (y.w.cell? ⟨g13, 0, none⟩ = some (.int .i64 oR.x1) ∧ y.w.cell? ⟨g13, 1, none⟩ = some (.int .i64 oR.y1)) ∧ y.w.cell? ⟨g13, 2, none⟩ = some (.int .i64 oR.x2) ∧ y.w.cell? ⟨g13, 3, none⟩ = some (.int .i64 oR.y2) := fun y => ⟨⟨cell_keep y.ok z0, cell_keep y.ok z1⟩, cell_keep y.ok z2, cell_keep y.ok z3⟩
          clear z0 z1 z2 z3 r0 r1 r2 r3 k2 hu v11 v12 v13 v14 HY HR13 HR11
          haveI n1 : Nonempty (KW (fun W' => Below W1'.heap.size W1' W')) := ⟨⟨W1', Below.refl _ _⟩⟩
          by_cases hbd : ob = (nb : Int)
          · have HOF := Lib.hid (HOV.out hbd)
            have hap := HAY.out hbd
            subst hap
            have hbq : (ob == (nb : Int)) = true := by rw [hbd]; simp
            clear hbd
            refine wp_region_tree (fun w' => ∃ y : (KW (fun W' => Below W1'.heap.size W1' W')), w' = y.w) 17 (.take 0 (.take 1 (.take 2 (.take 3 (.take 4 (.take 5 (.take 6 (.take 7 (.take 8 (.take 9 (.take 10 (.take 11 (.take 12 (.take 13 (.take 14 (.take 15 (.take 16 .done))))))))))))))))) hmix (by kernel_rfl) (KW.mk' (Below.refl _ _).drew) ?_
            have hB0 : Below W1'.heap.size W1' W1'.drew := (Below.refl _ _).drew
            generalize W1'.drew = wf at *
            have HBf := Lib.hid hB0
            clear hB0
            repeat (refine wpTree_take ?_; simp only [nthOp]; (first | go_big_quiet_step (fail) | quiet_step (fail)); refine wpQuiet_nil ?_)
            refine wpTree_done ?_
            simp only [List.drop_succ_cons, List.drop_zero]
            go_wp2_with (go_at_call 25; refine (overlapsS_is _ _ _ HOF.out).mono ?_; rintro e wg ⟨rfl, hb⟩; have HBg := Lib.hid (HBf.out.trans (hb.mono HBf.out.size)); clear hb)
            refine NP_mk ?_
            go_wp2_with fail
            go_roundw
            case rel => exact ⟨i + 1, by omega, by go_num, HBI.out.trans ((HB1.out.trans (HBg.out.mono HB1.out.size)).mono HBI.out.size)⟩
            case measure => first | (simp [intOf]; done) | (simp [intOf]; omega)
          · have hbq : (ob == (nb : Int)) = false := by simpa using hbd
            clear hbd HOV HAY
            obtain ⟨y0, y1⟩ := kx0 ⟨W1', Below.refl _ _⟩
            simp only at y0 y1
            clear kx0 kx1 kx2 n1
            go_quiet (fail)
            rename_i nq
            go_wp2_with fail
            go_roundw
            case rel => exact ⟨i + 1, by omega, by go_num, HBI.out.trans ((below_drewN HB1.out nq).mono HBI.out.size)⟩
            case measure => first | (simp [intOf]; done) | (simp [intOf]; omega)
        · obtain rfl : i = k := by omega
          have hii2 : ¬ ((i : Nat) : Int) < ((i : Nat) : Int) := by omega
          go_wp2_with fail
          go_roundw
          case rel => exact ⟨i + 1, by omega, by go_num, HB7i.out⟩
          case measure => first | (simp [intOf]; done) | (simp [intOf]; omega)
    · obtain rfl : k = L.length := by omega
      have hki : ¬ ((L.length : Nat) : Int) < ((L.length : Nat) : Int) := by omega
      go_wp2_with fail
      go_ret
      exact ⟨rfl, HBO.out⟩
set_option maxRecDepth 100000 in
theorem cuttingSound_walks : Walks 4 Try.f4 := by
  intro H enc W base args ds p hval hA hlt
  rw [Try.params4] at hA hval
  obtain ⟨v0, vs0, d0, ds0, p0, q0, hargs, rfl, rfl, ⟨fu0, hf0⟩, r0⟩ := trodAll_cons hA
  obtain ⟨v1, vs1, d1, ds1, p1, q1, rfl, rfl, rfl, ⟨fu1, hf1⟩, r1⟩ := trodAll_cons r0
  obtain ⟨rfl, rfl, rfl⟩ := trodAll_nil r1
  obtain rfl : args = #[v0, v1] := by cases args; simp_all
  obtain ⟨cs0, rfl, -⟩ := okWide_struct Try.underlying47 (hval 0 47 v0 rfl rfl)
  obtain ⟨j0, a0, c0, b0, d0, hc0, ⟨V0, C0, M0⟩, ⟨U0, D0, N0⟩, W0⟩ := Job.open_ hf0
  have hd0 : cs0 = #[.slice a0 j0.stock.length c0, .slice b0 j0.blanks.length d0, .int .i64 j0.trim.kerf, .int .i64 j0.trim.ends, .int .i64 j0.trim.sides] := by
    cases cs0; simpa [Value.cells] using hc0
  subst hd0
  obtain ⟨_, _, _, rfl⟩ := okWide_slice Try.underlying48 (hval 1 48 v1 rfl rfl)
  obtain ⟨a1, plan, c1, e1, V1, C1, M1⟩ := Layouts.open_ hf1
  rw [e1]
  exact walkCuttingSound j0 a0 c0 b0 d0 a1 plan c1 W V0 (by unfold maxLen at M0; omega) C0 U0 (by unfold maxLen at N0; omega) D0 W0 V1 (by unfold maxLen at M1; omega) C1

set_option maxRecDepth 100000 in
theorem cuttingSound_holds : Rows.CuttingSoundSaid :=
  law_holds (s := Rows.cuttingSoundSpec) (c := Rows.cuttingSoundRow) 4 Try.f4 rfl
    (fun H ds h => by match ds, h with | [_, _], _ => rfl) (by kernel_rfl) (by kernel_rfl)
    rfl rfl rfl rfl rfl rfl rfl ⟨rfl, rfl, rfl, rfl, rfl⟩ rfl rfl rfl rfl rfl rfl rfl rfl rfl rfl (fun _ _ => rfl) (by kernel_rfl) Try.func4
    cuttingSound_closed (of_decide_eq_true (by kernel_rfl)) (by unfold Func.isWrapper; first | (rw [if_pos (by decide +kernel)]; kernel_rfl) | (rw [if_neg (by decide +kernel)]; exact ⟨rfl, rfl⟩)) (by kernel_rfl)
    (fun H enc os => ChangeSpec.witness6 (enc := enc) (C := Try.checked) false ⟨#[], #[.agg #[.slice none 0 0, .slice none 0 0, .int .i64 0, .int .i64 0, .int .i64 0], .slice none 0 0], []⟩ 8 (by kernel_rfl) (by kernel_rfl) (by kernel_rfl) (by kernel_rfl))
    cuttingSound_walks
end Go.Proofs.Ytdmoiepafkbefaa
