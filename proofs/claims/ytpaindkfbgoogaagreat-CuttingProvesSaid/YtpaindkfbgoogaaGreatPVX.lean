/- Bounds prove (plain): sums over the pieces of a plan, and the layouts that have a piece. -/
import Derived.Test.YtpaindkfbgoogaaGreatBDY
set_option linter.unusedVariables false
set_option linter.unusedSimpArgs false
namespace Go.Proofs.YtpaindkfbgoogaaGreat

/-! The layouts that have a piece. -/
def hasP (l : Layout) : Bool := l.cuts.any isPieceC
def withN (plan : List Layout) : Nat := plan.countP hasP
def bdOf (j : Job) (l : Layout) : Board := j.stock.getD l.board.toNat default
def onSp (j : Job) (sp : ByteArray) (l : Layout) : Bool := hasP l && boardIs sp (bdOf j l)
def nSp (j : Job) (plan : List Layout) (sp : ByteArray) : Nat := plan.countP (onSp j sp)
theorem hasS_false {l : List ByteArray} {s : ByteArray} (h : hasS l s = false) : ∀ x ∈ l, (x.toList == s.toList) = false := fun x hx => by
  have := List.any_eq_false.1 h x hx
  simpa using this
theorem kinds_apart {l : List Blank} : ∀ k, (kindsTo l k).Pairwise fun a b => (a.toList == b.toList) = false
  | 0 => List.Pairwise.nil
  | k + 1 => by
    have ih := kinds_apart (l := l) k
    rw [kindsTo]
    cases h : hasS (kindsTo l k) (bl l k).species
    · rw [if_neg (by decide)]
      exact List.pairwise_append.2 ⟨ih, List.pairwise_singleton _ _, fun a ha b hb => by rw [List.mem_singleton.1 hb]; exact hasS_false h a ha⟩
    · rw [if_pos rfl]; exact ih
theorem sum_map_add {α : Type} (f g : α → Nat) : ∀ L : List α, (L.map fun s => f s + g s).sum = (L.map f).sum + (L.map g).sum
  | [] => rfl
  | s :: L => by simp only [List.map_cons, List.sum_cons, sum_map_add f g L]; omega
theorem one_kind {t : ByteArray} : ∀ {L : List ByteArray}, L.Pairwise (fun a b => (a.toList == b.toList) = false) → (L.map fun s => if (t.toList == s.toList) = true then 1 else 0).sum ≤ 1
  | [], _ => by simp
  | s :: L, h => by
    obtain ⟨h1, h2⟩ := List.pairwise_cons.1 h
    rw [List.map_cons, List.sum_cons]
    cases hs : (t.toList == s.toList)
    · have := one_kind (t := t) h2
      simp only [Bool.false_eq_true, if_false]
      omega
    · have e : ∀ L' : List ByteArray, (∀ b ∈ L', (s.toList == b.toList) = false) → (L'.map fun s => if (t.toList == s.toList) = true then 1 else 0).sum = 0 := fun L' => by
        induction L' with
        | nil => intro _; rfl
        | cons b L' ih =>
          intro hb
          rw [List.map_cons, List.sum_cons, ih fun c hc => hb c (List.mem_cons_of_mem _ hc)]
          have h3 := hb b List.mem_cons_self
          rw [← beq_iff_eq.1 hs] at h3
          rw [h3]
          rfl
      rw [e L h1]
      simp
theorem nSp_sum {j : Job} {L : List ByteArray} (hL : L.Pairwise fun a b => (a.toList == b.toList) = false) : ∀ plan : List Layout, (L.map (nSp j plan)).sum ≤ withN plan
  | [] => by
    have : ∀ L : List ByteArray, (L.map (nSp j [])).sum = 0 := fun L => by
      induction L with
      | nil => rfl
      | cons s L ih => rw [List.map_cons, List.sum_cons, ih]; rfl
    rw [this]; exact Nat.zero_le _
  | l :: plan => by
    have ih := nSp_sum (j := j) hL plan
    have e : (L.map (nSp j (l :: plan))) = L.map fun s => nSp j plan s + (if onSp j s l = true then 1 else 0) := by
      refine List.map_congr_left fun s _ => ?_
      unfold nSp
      rw [List.countP_cons]
    rw [e, sum_map_add]
    unfold withN at ih ⊢
    rw [List.countP_cons]
    have h1 : (L.map fun s => if onSp j s l = true then 1 else 0).sum ≤ if hasP l = true then 1 else 0 := by
      cases hh : hasP l
      · have : (L.map fun s => if onSp j s l = true then 1 else 0) = L.map fun _ => 0 := List.map_congr_left fun s _ => by unfold onSp; rw [hh]; rfl
        rw [this]
        have z : ∀ L : List ByteArray, (L.map fun _ => 0).sum = 0 := fun L => by
          induction L with
          | nil => rfl
          | cons s L ih => rw [List.map_cons, List.sum_cons, ih]
        rw [z]
        exact Nat.zero_le _
      · have : (L.map fun s => if onSp j s l = true then 1 else 0) = L.map fun s => if ((bdOf j l).species.toList == s.toList) = true then 1 else 0 := List.map_congr_left fun s _ => by unfold onSp boardIs; rw [hh, Bool.true_and]
        rw [this]
        exact one_kind hL
    omega

/-! Sums over pieces. -/
theorem sumQ_mul {f : Placed → Int} (c : Int) : ∀ L : List Placed, sumQ (fun p => c * f p) L = c * sumQ f L
  | [] => by simp [sumQ]
  | p :: L => by simp only [sumQ]; rw [sumQ_mul c L, Int.mul_add]
theorem sumQ_congr {f g : Placed → Int} : ∀ {L : List Placed}, (∀ p ∈ L, f p = g p) → sumQ f L = sumQ g L
  | [], _ => rfl
  | p :: L, h => by simp only [sumQ]; rw [h p List.mem_cons_self, sumQ_congr fun q hq => h q (List.mem_cons_of_mem _ hq)]
theorem sumQ_sumP (f : Nat → Int) : ∀ L : List Placed, sumQ (fun p => f p.blank.toNat) L = sumP f L
  | [] => rfl
  | p :: L => by simp only [sumQ, sumP]; rw [sumQ_sumP f L]
theorem sumQ_flat {f : Placed → Int} {j : Job} : ∀ plan : List Layout, sumQ f (plan.flatMap (pcs j)) = (plan.map fun l => sumQ f (pcs j l)).sum
  | [] => rfl
  | l :: plan => by rw [List.flatMap_cons, sumQ_app, sumQ_flat plan, List.map_cons, List.sum_cons]
theorem pcs_none {j : Job} {l : Layout} (h : hasP l = false) : pcs j l = [] := by
  cases hl : pcs j l with
  | nil => rfl
  | cons p r =>
    exfalso
    have hp : p ∈ pcs j l := by rw [hl]; exact List.mem_cons_self
    obtain ⟨i, hi, hc, -⟩ := piecesTo_at hp
    have h1 := List.any_eq_false.1 h (l.cuts.getD i default) (by rw [List.getD_eq_getElem?_getD, List.getElem?_eq_getElem hi]; exact List.getElem_mem hi)
    exact h1 hc
/-- What the pieces of a plan are in number. -/
theorem plan_count {j : Job} {plan : List Layout} (h : (planE2 j plan).2 = 0) (f : Nat → Int) : sumP f (placesM j plan) = sumTo j.blanks.length fun b => (bl j.blanks b).count * f b := by
  obtain ⟨hE, hlay, hpc, hcnt⟩ := plan_parts h
  have hpos : ∀ p ∈ placesM j plan, 0 ≤ p.blank := fun p hp => by
    obtain ⟨m, -, hp⟩ := placesTo_at hp
    exact (piecesTo_board hp).2
  obtain ⟨-, g2, g3⟩ := pieceGo_all f hpc (by simp) hpos
  have hz : dotL (List.replicate j.blanks.length 0) f = 0 := by
    unfold dotL
    rw [List.length_replicate, sumTo_congr (g := fun _ => 0) (fun b hb => by simp [List.getD_eq_getElem?_getD, List.getElem?_replicate, hb])]
    exact sumTo_zero _
  have hl : (pieceGo j (placesM j plan) (List.replicate j.blanks.length 0)).2.length = j.blanks.length := by rw [g2]; simp
  rw [hz, Int.zero_add] at g3
  rw [← g3]
  unfold dotL
  rw [hl]
  refine sumTo_congr fun b hb => ?_
  rw [countE_all hcnt hl hb, bl_get hb]
theorem piece_of {j : Job} {plan : List Layout} (h : (planE2 j plan).2 = 0) {b : Nat} (hb : b < j.blanks.length) : ∃ p ∈ placesM j plan, p.blank.toNat = b := by
  have hc := plan_count h fun x => if x = b then 1 else 0
  rw [sumTo_congr (g := fun x => if x = b then (bl j.blanks b).count else 0) (fun x _ => by split <;> simp_all), sumTo_one, if_pos hb] at hc
  have hw := (jobOk_of (plan_parts h).1).want _ (List.getElem_mem hb)
  rw [← bl_get hb] at hw
  generalize hP : placesM j plan = P at hc ⊢
  have hex : ∀ P : List Placed, (∀ p ∈ P, p.blank.toNat ≠ b) → sumP (fun x => if x = b then 1 else 0) P = 0 := fun P => by
    induction P with
    | nil => intro _; rfl
    | cons p P ih =>
      intro hn
      rw [sumP, ih fun q hq => hn q (List.mem_cons_of_mem _ hq), if_neg (hn p List.mem_cons_self)]
      rfl
  apply Classical.byContradiction
  intro hno
  have := hex P fun p hp e => hno ⟨p, hp, e⟩
  omega
theorem plan_fits {j : Job} {plan : List Layout} (h : (planE2 j plan).2 = 0) : ∀ x ∈ j.blanks, fitsP j x := fun x hx => by
  obtain ⟨b, hb, rfl⟩ := List.mem_iff_getElem.1 hx
  obtain ⟨p, hp, e⟩ := piece_of h hb
  have hi := (plan_sound h).2.1 p hp
  obtain ⟨k1, k2, k3⟩ := show kindOk (j.stock.getD p.board.toNat default) (bl j.blanks p.blank.toNat) = true ∧ (p.at_.x2 - p.at_.x1 = (bl j.blanks p.blank.toNat).length ∧ p.at_.y2 - p.at_.y1 = (bl j.blanks p.blank.toNat).width) ∧ within p.at_ (usableR (j.stock.getD p.board.toNat default) j.trim) from ⟨hi.kind, hi.size, hi.inside⟩
  have hlt : p.board.toNat < j.stock.length := by have := hi.board; omega
  rw [List.getD_eq_getElem?_getD, List.getElem?_eq_getElem hlt, e, bl_get hb] at k1
  rw [e, bl_get hb] at k2
  rw [List.getD_eq_getElem?_getD, List.getElem?_eq_getElem hlt] at k3
  simp only [Option.getD_some] at k1 k3
  have hg := room_ge (j := j) hlt
  unfold kindOk at k1
  rw [Bool.and_eq_true] at k1
  rw [roomM_congr k1.1] at hg
  unfold within at k3
  unfold fitsP
  omega
end Go.Proofs.YtpaindkfbgoogaaGreat
/- Bounds prove (plain): no plan has fewer layouts with pieces than a bound by weights. -/
set_option linter.unusedVariables false
set_option linter.unusedSimpArgs false
namespace Go.Proofs.YtpaindkfbgoogaaGreat

theorem mem_placesM {j : Job} {plan : List Layout} {p : Placed} {l : Layout} (hl : l ∈ plan) (hp : p ∈ pcs j l) : p ∈ placesM j plan := by
  rw [placesM_flat]
  exact List.mem_flatMap.2 ⟨l, hl, hp⟩
theorem pcs_board {j : Job} {l : Layout} {p : Placed} (hp : p ∈ pcs j l) : p.board = l.board ∧ 0 ≤ p.blank := piecesTo_board hp
/-- A sum over all pieces, bounded on each board. -/
theorem plan_sum {j : Job} {sp : ByteArray} {f : Placed → Int} {K : Int} : ∀ {plan : List Layout}, (∀ l ∈ plan, sumQ f (pcs j l) ≤ if onSp j sp l = true then K else 0) → sumQ f (plan.flatMap (pcs j)) ≤ K * (nSp j plan sp : Nat)
  | [], _ => by simp [sumQ, nSp]
  | l :: plan, h => by
    have h1 := h l List.mem_cons_self
    have h2 := plan_sum (plan := plan) fun m hm => h m (List.mem_cons_of_mem _ hm)
    rw [List.flatMap_cons, sumQ_app]
    unfold nSp at h2 ⊢
    rw [List.countP_cons]
    cases hc : onSp j sp l
    · rw [hc] at h1
      simp only [Bool.false_eq_true, if_false, Nat.add_zero] at h1 ⊢
      omega
    · rw [hc] at h1
      simp only [if_true] at h1 ⊢
      rw [Int.natCast_add, Int.mul_add]
      simp only [Int.natCast_one, Int.mul_one]
      omega
def kindP (j : Job) (sp : ByteArray) (p : Placed) : Bool := kindIs sp (bl j.blanks p.blank.toNat)
theorem kind_sp {b : Board} {x : Blank} {sp : ByteArray} (h : kindOk b x = true) : kindIs sp x = boardIs sp b := by
  unfold kindOk at h
  rw [Bool.and_eq_true] at h
  unfold kindIs boardIs
  rw [beq_iff_eq.1 h.1]
def DS (j : Job) (k0 k1 : Nat) (sp : ByteArray) : Int := ((wtK k0 * max 1 ((roomM j sp).1 + j.trim.kerf).toNat * (wtK k1 * max 1 ((roomM j sp).2 + j.trim.kerf).toNat) : Nat) : Int)
theorem DD_is {j : Job} {k0 k1 : Nat} {sp : ByteArray} {b : Board} (h : boardIs sp b = true) : DD j k0 k1 b = DS j k0 k1 sp := by
  unfold DD DS dA dB
  rw [roomM_congr h]
def gW (j : Job) (k0 k1 : Nat) (sp : ByteArray) (p : Placed) : Int := if kindP j sp p = true then fB j k0 k1 p.board (j.stock.getD p.board.toNat default) p else 0
theorem lay_weights {j : Job} {plan : List Layout} {k0 k1 : Nat} {sp : ByteArray} (h : (planE2 j plan).2 = 0) {l : Layout} (hl : l ∈ plan) : sumQ (gW j k0 k1 sp) (pcs j l) ≤ if onSp j sp l = true then DS j k0 k1 sp else 0 := by
  have hok := layGo_ok (plan_parts h).2.1
  have hJ := jobOk_of (plan_parts h).1
  cases hh : hasP l
  · rw [pcs_none hh]
    unfold onSp
    rw [hh]
    exact Int.le_refl _
  · obtain ⟨⟨hb0, hb1⟩, hl0⟩ := hok l hl
    have hlt : l.board.toNat < j.stock.length := by omega
    have hbd : bdOf j l = j.stock[l.board.toNat] := by unfold bdOf; rw [List.getD_eq_getElem?_getD, List.getElem?_eq_getElem hlt]; rfl
    have hpc : ∀ p ∈ pcs j l, kindP j sp p = boardIs sp (bdOf j l) := fun p hp => by
      have hi := ((plan_sound h).2.1 p (mem_placesM hl hp)).kind
      unfold kindP
      rw [kind_sp hi, (pcs_board hp).1]
      rfl
    unfold onSp
    rw [hh, Bool.true_and]
    cases hs : boardIs sp (bdOf j l)
    · rw [sumQ_zero fun p hp => by unfold gW; rw [hpc p hp, hs]; rfl]
      exact Int.le_refl _
    · rw [if_pos rfl, ← DD_is (k0 := k0) (k1 := k1) hs, hbd]
      refine Int.le_trans ?_ (layout_le (k0 := k0) (k1 := k1) (l := l) hJ.trim.1.1 hlt (by omega) hl0)
      refine Int.le_of_eq (sumQ_congr fun p hp => ?_)
      unfold gW
      have e : ((l.board.toNat : Nat) : Int) = l.board := by omega
      rw [hpc p hp, hs, if_pos rfl, (pcs_board hp).1, e, ← hbd]
      rfl
def wP (j : Job) (k0 k1 : Nat) (sp : ByteArray) (D : Nat) (b : Nat) : Int := if kindIs sp (bl j.blanks b) = true then (((wtOf j k0 k1 (bl j.blanks b)).p * (D / (wtOf j k0 k1 (bl j.blanks b)).q) : Nat) : Int) else 0
theorem num_sum {j : Job} {k0 k1 : Nat} {sp : ByteArray} {D : Nat} (hJ : JobOk j.stock j.blanks j.trim) : ∀ k, k ≤ j.blanks.length → ((numP D (wtsTo j k0 k1 sp k) : Nat) : Int) = sumTo k fun b => (bl j.blanks b).count * wP j k0 k1 sp D b
  | 0, _ => by simp [wtsTo, numP, sumTo]
  | k + 1, h => by
    have ih := num_sum (k0 := k0) (k1 := k1) (sp := sp) (D := D) hJ k (by omega)
    have hk : k < j.blanks.length := h
    have hw := hJ.want _ (List.getElem_mem hk)
    rw [sumTo]
    unfold wP at ih ⊢
    rw [bl_get hk]
    cases hs : (j.blanks[k].species.toList == sp.toList)
    · rw [wtsTo_no hk hs, ih, if_neg (by unfold kindIs; rw [hs]; decide)]
      simp
    · rw [wtsTo_yes hk hs, numP_app, if_pos (show kindIs sp j.blanks[k] = true from hs), Int.natCast_add, ih]
      congr 1
      rw [Int.natCast_mul _ (wtOf j k0 k1 j.blanks[k]).c, Int.mul_comm]
      congr 1
      show ((j.blanks[k].count.toNat : Nat) : Int) = _
      omega
/-- **No plan has fewer layouts with pieces of a species than its bound.** -/
theorem bndS_le {j : Job} {plan : List Layout} {k0 k1 : Nat} {sp : ByteArray} (h : (planE2 j plan).2 = 0) (h0 : k0 ≤ 20) (h1 : k1 ≤ 20) : bndS j k0 k1 sp ≤ nSp j plan sp := by
  have hJ := jobOk_of (plan_parts h).1
  have hfit := plan_fits h
  unfold bndS
  have hq : ∀ x ∈ wtsM j k0 k1 sp, 1 ≤ x.q := fun x hx => by
    unfold wtsM wtsTo at hx
    rw [List.mem_map] at hx
    obtain ⟨y, hy, rfl⟩ := hx
    have hy := List.mem_of_mem_take (List.mem_filter.1 hy).1
    exact ((wt_ok hJ hy (hfit y hy) h0 h1).1).q
  have hD : 1 ≤ denL 1 (wtsM j k0 k1 sp) := denL_pos (Nat.le_refl _) hq
  have hdv := (denL_mul (l := wtsM j k0 k1 sp) (d := 1)).2
  rw [ceilN_le hD]
  generalize hDe : denL 1 (wtsM j k0 k1 sp) = D at *
  have hs := num_sum (k0 := k0) (k1 := k1) (sp := sp) (D := D) hJ j.blanks.length (Nat.le_refl _)
  rw [← plan_count h, ← sumQ_sumP] at hs
  have hcmp : ∀ p ∈ placesM j plan, DS j k0 k1 sp * wP j k0 k1 sp D p.blank.toNat = (D : Int) * gW j k0 k1 sp p := fun p hp => by
    have hi := (plan_sound h).2.1 p hp
    have hlt : p.board.toNat < j.stock.length := by have := hi.board; omega
    have hbl : p.blank.toNat < j.blanks.length := by have := hi.blank; omega
    have hkd := hi.kind
    unfold wP gW kindP
    rw [List.getD_eq_getElem?_getD, List.getElem?_eq_getElem hlt] at hkd ⊢
    simp only [Option.getD_some] at hkd ⊢
    cases hs : kindIs sp (bl j.blanks p.blank.toNat)
    · simp
    · rw [if_pos rfl, if_pos rfl]
      have hpw := (piece_w (k0 := k0) (k1 := k1) hJ hi hlt hbl (hfit _ (List.getElem_mem hbl))).1
      rw [← bl_get hbl] at hpw
      rw [DD_is (k0 := k0) (k1 := k1) (by rw [← kind_sp hkd]; exact hs)] at hpw
      have hx : wtOf j k0 k1 (bl j.blanks p.blank.toNat) ∈ wtsM j k0 k1 sp := by
        unfold wtsM wtsTo
        refine List.mem_map.2 ⟨_, List.mem_filter.2 ⟨?_, hs⟩, rfl⟩
        rw [List.take_length, bl_get hbl]
        exact List.getElem_mem hbl
      obtain ⟨a, ha⟩ := hdv _ hx
      have hq1 := hq _ hx
      generalize hw : wtOf j k0 k1 (bl j.blanks p.blank.toNat) = x at ha hq1 ⊢
      have hxp : x.p = lowP (wfN j k0 k1 (bl j.blanks p.blank.toNat)) (wfD j k0 k1 (bl j.blanks p.blank.toNat)) := by rw [← hw]; rfl
      have hxq : x.q = lowQ (wfN j k0 k1 (bl j.blanks p.blank.toNat)) (wfD j k0 k1 (bl j.blanks p.blank.toNat)) := by rw [← hw]; rfl
      rw [← hxp, ← hxq] at hpw
      rw [ha, Nat.mul_div_cancel_left _ hq1, Int.natCast_mul, Int.natCast_mul]
      calc DS j k0 k1 sp * ((x.p : Int) * (a : Int)) = ((x.p : Int) * DS j k0 k1 sp) * (a : Int) := by ac_rfl
        _ = _ := by rw [hpw]; ac_rfl
  have hall : DS j k0 k1 sp * (numP D (wtsTo j k0 k1 sp j.blanks.length) : Nat) ≤ DS j k0 k1 sp * ((nSp j plan sp : Nat) * (D : Int)) := by
    rw [hs, ← sumQ_mul, sumQ_congr hcmp, sumQ_mul, placesM_flat]
    have hp := plan_sum (j := j) (sp := sp) (f := gW j k0 k1 sp) (K := DS j k0 k1 sp) (plan := plan) fun l hl => lay_weights h hl
    have := Int.mul_le_mul_of_nonneg_left hp (show (0 : Int) ≤ (D : Int) by omega)
    refine Int.le_trans this (Int.le_of_eq ?_)
    ac_rfl
  have hpos : 0 < DS j k0 k1 sp := by
    unfold DS
    have w0 : ∀ k, 1 ≤ wtK k := fun k => by unfold wtK; split <;> omega
    have : 1 ≤ wtK k0 * max 1 ((roomM j sp).1 + j.trim.kerf).toNat * (wtK k1 * max 1 ((roomM j sp).2 + j.trim.kerf).toNat) := Nat.mul_pos (Nat.mul_pos (w0 _) (by omega)) (Nat.mul_pos (w0 _) (by omega))
    omega
  have hfin := Int.le_of_mul_le_mul_left hall hpos
  have : ((numP D (wtsM j k0 k1 sp) : Nat) : Int) ≤ ((nSp j plan sp * D : Nat) : Int) := by rw [Int.natCast_mul]; exact hfin
  omega
theorem bndM_le {j : Job} {plan : List Layout} {k0 k1 : Nat} (h : (planE2 j plan).2 = 0) (h0 : k0 ≤ 20) (h1 : k1 ≤ 20) : bndM j k0 k1 ≤ withN plan := by
  unfold bndM
  refine Nat.le_trans ?_ (nSp_sum (j := j) (kinds_apart (l := j.blanks) j.blanks.length) plan)
  have : ∀ L : List ByteArray, bndTo j k0 k1 L ≤ (L.map (nSp j plan)).sum := fun L => by
    induction L with
    | nil => exact Nat.le_refl _
    | cons s L ih =>
      rw [bndTo, List.map_cons, List.sum_cons]
      have := bndS_le (sp := s) h h0 h1
      omega
  exact this _
end Go.Proofs.YtpaindkfbgoogaaGreat
/- Bounds prove (plain): no plan has fewer layouts with pieces than the bound by areas. -/
set_option linter.unusedVariables false
set_option linter.unusedSimpArgs false
namespace Go.Proofs.YtpaindkfbgoogaaGreat

/-! Squares of rectangles that lie apart. -/
def inR (r : Rect) (x y : Int) : Bool := (decide (r.x1 ≤ x) && decide (x < r.x2)) && (decide (r.y1 ≤ y) && decide (y < r.y2))
def cntR : List Rect → Int → Int → Int
  | [], _, _ => 0
  | r :: l, x, y => indB (inR r x y) + cntR l x y
def sum2 (g : Int → Int → Int) (u : Rect) : Int := sumR (fun x => sumR (fun y => g x y) u.y1 u.y2) u.x1 u.x2
theorem sumN_plus (f g : Int → Int) (a : Int) : ∀ n, sumN (fun p => f p + g p) a n = sumN f a n + sumN g a n
  | 0 => rfl
  | n + 1 => by rw [sumN, sumN, sumN, sumN_plus f g a n]; omega
theorem sumR_plus (f g : Int → Int) (a b : Int) : sumR (fun p => f p + g p) a b = sumR f a b + sumR g a b := sumN_plus f g a _
theorem sum2_plus (f g : Int → Int → Int) (u : Rect) : sum2 (fun x y => f x y + g x y) u = sum2 f u + sum2 g u := by
  unfold sum2
  rw [← sumR_plus]
  exact sumR_congr fun x _ _ => sumR_plus _ _ _ _
theorem sum2_le {f g : Int → Int → Int} {u : Rect} (h : ∀ x y, f x y ≤ g x y) : sum2 f u ≤ sum2 g u := sumR_le fun x _ _ => sumR_le fun y _ _ => h x y
theorem sum2_one {u : Rect} (hx : u.x1 ≤ u.x2) (hy : u.y1 ≤ u.y2) : sum2 (fun _ _ => 1) u = areaR u := by
  unfold sum2 areaR
  rw [sumR_const hx (c := u.y2 - u.y1) fun x _ _ => by rw [sumR_const hy (c := 1) fun _ _ _ => rfl]; omega]
theorem sum2_zero {u : Rect} (hx : u.x1 ≤ u.x2) (hy : u.y1 ≤ u.y2) : sum2 (fun _ _ => 0) u = 0 := sumR_zero hx fun _ _ _ => sumR_zero hy fun _ _ _ => rfl
theorem sumR_part {g : Int → Int} {a b c d v : Int} (h1 : a ≤ c) (h2 : c ≤ d) (h3 : d ≤ b) (hi : ∀ p, c ≤ p → p < d → g p = v) (ho : ∀ p, p < c ∨ d ≤ p → g p = 0) : sumR g a b = (d - c) * v := by
  rw [sumR_split g h1 (show c ≤ b by omega), sumR_split g h2 h3, sumR_zero h1 fun p _ h => ho p (.inl h), sumR_zero h3 fun p h _ => ho p (.inr h), sumR_const h2 hi]
  omega
theorem sum2_in {r u : Rect} (h : within r u) : sum2 (fun x y => indB (inR r x y)) u = areaR r := by
  unfold within at h
  unfold sum2 areaR
  refine sumR_part (by omega) (by omega) (by omega) (fun x x1 x2 => ?_) fun x hx => ?_
  · rw [sumR_part (c := r.y1) (d := r.y2) (v := 1) (by omega) (by omega) (by omega) (fun y y1 y2 => ?_) fun y hy => ?_]
    · omega
    · simp only; unfold inR; rw [decide_eq_true x1, decide_eq_true x2, decide_eq_true y1, decide_eq_true y2]; rfl
    · simp only
      unfold inR
      rcases hy with hy | hy
      · rw [decide_eq_false (show ¬ r.y1 ≤ y by omega)]; simp [indB]
      · rw [decide_eq_false (show ¬ y < r.y2 by omega)]; simp [indB]
  · refine sumR_zero (by omega) fun y _ _ => ?_
    simp only
    unfold inR
    rcases hx with hx | hx
    · rw [decide_eq_false (show ¬ r.x1 ≤ x by omega)]; simp [indB]
    · rw [decide_eq_false (show ¬ x < r.x2 by omega)]; simp [indB]
theorem sum2_cnt {u : Rect} (hx : u.x1 ≤ u.x2) (hy : u.y1 ≤ u.y2) : ∀ {l : List Rect}, (∀ r ∈ l, within r u) → sum2 (cntR l) u = (l.map areaR).sum
  | [], _ => by rw [show cntR [] = fun _ _ => 0 from rfl, sum2_zero hx hy]; rfl
  | r :: l, h => by
    rw [show cntR (r :: l) = fun x y => indB (inR r x y) + cntR l x y from rfl, sum2_plus, sum2_in (h r List.mem_cons_self), sum2_cnt hx hy fun q hq => h q (List.mem_cons_of_mem _ hq)]
    rfl
theorem inR_true {r : Rect} {x y : Int} (h : inR r x y = true) : (r.x1 ≤ x ∧ x < r.x2) ∧ (r.y1 ≤ y ∧ y < r.y2) := by
  unfold inR at h
  simpa [Bool.and_eq_true] using h
theorem cnt_zero {x y : Int} : ∀ {l : List Rect}, (∀ r ∈ l, inR r x y = false) → cntR l x y = 0
  | [], _ => rfl
  | r :: l, h => by rw [cntR, h r List.mem_cons_self, cnt_zero fun q hq => h q (List.mem_cons_of_mem _ hq)]; rfl
theorem cnt_one {kerf x y : Int} (hk : 0 ≤ kerf) : ∀ {l : List Rect}, l.Pairwise (apart kerf) → cntR l x y ≤ 1
  | [], _ => by simp [cntR]
  | r :: l, h => by
    obtain ⟨h1, h2⟩ := List.pairwise_cons.1 h
    rw [cntR]
    cases hr : inR r x y
    · have := cnt_one (x := x) (y := y) hk h2
      simp only [indB, Bool.false_eq_true, if_false]
      omega
    · rw [cnt_zero fun q hq => by
        cases hq' : inR q x y
        · rfl
        · exfalso
          have a1 := inR_true hr
          have a2 := inR_true hq'
          have a3 := h1 q hq
          unfold apart at a3
          omega]
      simp [indB]
theorem cnt_cov {kerf x y : Int} {ds : List Rect} {l : List Rect} (hk : 0 ≤ kerf) (hp : l.Pairwise (apart kerf)) (hs : ∀ r ∈ l, soundB ds r = true) : cntR l x y + indB (covC ds x y) ≤ 1 := by
  cases hc : covC ds x y
  · have := cnt_one (x := x) (y := y) hk hp
    simp only [indB, Bool.false_eq_true, if_false]
    omega
  · rw [cnt_zero fun r hr => by
      cases hq : inR r x y
      · rfl
      · exfalso
        obtain ⟨d, hd, h1⟩ := covC_true.1 hc
        have a1 := inR_true hq
        have h2 := hs r hr
        unfold soundB at h2
        rw [Bool.not_eq_true'] at h2
        have h3 := List.any_eq_false.1 h2 d hd
        apply h3
        unfold overlapsB
        simp only [Bool.and_eq_true, decide_eq_true_eq]
        omega]
    simp [indB]
/-- **Sound rectangles that lie apart are no larger than the sound wood.** -/
theorem rects_area {kerf : Int} {ds : List Rect} {l : List Rect} {u : Rect} (hk : 0 ≤ kerf) (hx : u.x1 ≤ u.x2) (hy : u.y1 ≤ u.y2) (hin : ∀ r ∈ l, within r u) (hp : l.Pairwise (apart kerf)) (hs : ∀ r ∈ l, soundB ds r = true) : (l.map areaR).sum + covA ds u ≤ areaR u := by
  rw [← sum2_cnt hx hy hin, ← sum2_one hx hy, show covA ds u = sum2 (fun x y => indB (covC ds x y)) u from rfl, ← sum2_plus]
  exact sum2_le fun x y => cnt_cov hk hp hs

/-! The boards of a species that have a piece. -/
def selI (j : Job) (sp : ByteArray) (u : Nat → Bool) : Nat → List Int
  | 0 => []
  | k + 1 => if (boardIs sp (j.stock.getD k default) && u k) = true then selI j sp u k ++ [soundAr (j.stock.getD k default) j.trim] else selI j sp u k
theorem getD_stock {j : Job} {k : Nat} (h : k < j.stock.length) : j.stock.getD k default = j.stock[k] := by rw [List.getD_eq_getElem?_getD, List.getElem?_eq_getElem h]; rfl
theorem selI_sub {j : Job} {sp : ByteArray} {u : Nat → Bool} : ∀ k, k ≤ j.stock.length → (selI j sp u k).Sublist (sizesTo j sp k)
  | 0, _ => List.nil_sublist _
  | k + 1, h => by
    have ih := selI_sub (j := j) (sp := sp) (u := u) k (by omega)
    have hk : k < j.stock.length := h
    rw [selI, getD_stock hk]
    cases hs : (j.stock[k].species.toList == sp.toList)
    · rw [sizesTo_no hk hs, if_neg (by unfold boardIs; rw [hs]; simp)]
      exact ih
    · rw [sizesTo_yes hk hs]
      split
      · exact ih.append (List.Sublist.refl _)
      · exact ih.trans (List.sublist_append_left _ _)
theorem selI_sum {j : Job} {sp : ByteArray} {u : Nat → Bool} : ∀ k, (selI j sp u k).sum = sumTo k fun i => if (boardIs sp (j.stock.getD i default) && u i) = true then soundAr (j.stock.getD i default) j.trim else 0
  | 0 => rfl
  | k + 1 => by
    rw [selI, sumTo, ← selI_sum k]
    split
    · rw [List.sum_append]; simp
    · omega
theorem selI_len {j : Job} {sp : ByteArray} {u : Nat → Bool} : ∀ k, (selI j sp u k).length ≤ (List.range k).countP u
  | 0 => by simp [selI]
  | k + 1 => by
    have ih := selI_len (j := j) (sp := sp) (u := u) k
    rw [selI, List.range_succ, List.countP_append, List.countP_cons, List.countP_nil]
    split
    · rename_i h
      rw [Bool.and_eq_true] at h
      rw [h.2, if_pos rfl, List.length_append]
      simp only [List.length_cons, List.length_nil]
      omega
    · omega
def usedI (j : Job) (sp : ByteArray) (plan : List Layout) (i : Nat) : Bool := plan.any fun l => onSp j sp l && (l.board == (i : Int))
theorem used_len {j : Job} {sp : ByteArray} : ∀ {plan : List Layout} {n : Nat}, (List.range n).countP (usedI j sp plan) ≤ nSp j plan sp
  | [], n => by
    rw [List.countP_eq_zero.2 fun i _ => by simp [usedI]]
    exact Nat.zero_le _
  | l :: plan, n => by
    have ih := used_len (j := j) (sp := sp) (plan := plan) (n := n)
    unfold nSp at ih ⊢
    rw [List.countP_cons]
    have e : ∀ i, usedI j sp (l :: plan) i = ((onSp j sp l && (l.board == (i : Int))) || usedI j sp plan i) := fun i => by unfold usedI; rw [List.any_cons]
    cases hc : onSp j sp l
    · rw [show (usedI j sp (l :: plan)) = usedI j sp plan from funext fun i => by rw [e, hc]; rfl]
      omega
    · have hone : ∀ n : Nat, (List.range n).countP (usedI j sp (l :: plan)) ≤ (List.range n).countP (usedI j sp plan) + (if l.board.toNat < n then 1 else 0) := fun n => by
        induction n with
        | zero => simp
        | succ n ihn =>
          rw [List.range_succ, List.countP_append, List.countP_append, List.countP_cons, List.countP_nil, List.countP_cons, List.countP_nil, e, hc, Bool.true_and]
          by_cases hb : l.board = (n : Int)
          · rw [if_neg (by omega)] at ihn
            rw [if_pos (show l.board.toNat < n + 1 by omega)]
            split <;> split <;> omega
          · have hbf : (l.board == (n : Int)) = false := by simpa using hb
            rw [hbf, Bool.false_or]
            split at ihn <;> (split <;> split <;> omega)
      have := hone n
      rw [if_pos rfl]
      split at this <;> omega
theorem used_sum {j : Job} {sp : ByteArray} {c : Layout → Int} : ∀ {plan : List Layout}, plan.Pairwise (fun a b => a.board ≠ b.board) → (∀ l ∈ plan, 0 ≤ l.board ∧ l.board < j.stock.length) →
    (∀ l ∈ plan, c l ≤ if onSp j sp l = true then soundAr (bdOf j l) j.trim else 0) → (plan.map c).sum ≤ sumTo j.stock.length fun i => if (boardIs sp (j.stock.getD i default) && usedI j sp plan i) = true then soundAr (j.stock.getD i default) j.trim else 0
  | [], _, _, _ => by
    rw [sumTo_congr (g := fun _ => 0) (fun i _ => by simp [usedI]), sumTo_zero]
    exact Int.le_refl _
  | l :: plan, hp, hb, hc => by
    obtain ⟨h1, h2⟩ := List.pairwise_cons.1 hp
    have ih := used_sum (j := j) (sp := sp) (c := c) h2 (fun m hm => hb m (List.mem_cons_of_mem _ hm)) fun m hm => hc m (List.mem_cons_of_mem _ hm)
    have hcl := hc l List.mem_cons_self
    obtain ⟨hb0, hb1⟩ := hb l List.mem_cons_self
    rw [List.map_cons, List.sum_cons]
    have e : ∀ i, usedI j sp (l :: plan) i = ((onSp j sp l && (l.board == (i : Int))) || usedI j sp plan i) := fun i => by unfold usedI; rw [List.any_cons]
    cases hon : onSp j sp l
    · rw [hon] at hcl
      simp only [Bool.false_eq_true, if_false] at hcl
      rw [show (usedI j sp (l :: plan)) = usedI j sp plan from funext fun i => by rw [e, hon]; rfl]
      omega
    · rw [hon, if_pos rfl] at hcl
      have hspl : boardIs sp (bdOf j l) = true := by unfold onSp at hon; rw [Bool.and_eq_true] at hon; exact hon.2
      have hself : usedI j sp plan l.board.toNat = false := by
        unfold usedI
        rw [List.any_eq_false]
        intro m hm
        have := h1 m hm
        have hne : (m.board == ((l.board.toNat : Nat) : Int)) = false := by
          rw [beq_eq_false_iff_ne]; omega
        rw [hne, Bool.and_false]
        decide
      have hsum : sumTo j.stock.length (fun i => if (boardIs sp (j.stock.getD i default) && usedI j sp (l :: plan) i) = true then soundAr (j.stock.getD i default) j.trim else 0) =
          sumTo j.stock.length (fun i => (if (boardIs sp (j.stock.getD i default) && usedI j sp plan i) = true then soundAr (j.stock.getD i default) j.trim else 0) + (if i = l.board.toNat then soundAr (bdOf j l) j.trim else 0)) := sumTo_congr fun i hi => by
        rw [e, hon, Bool.true_and]
        by_cases hq : i = l.board.toNat
        · subst hq
          have h3 : (l.board == ((l.board.toNat : Nat) : Int)) = true := by rw [beq_iff_eq]; omega
          rw [h3, hself, Bool.true_or, Bool.and_true, Bool.and_false, show j.stock.getD l.board.toNat default = bdOf j l from rfl, if_pos hspl, if_pos rfl, if_neg (by decide), Int.zero_add]
        · have h3 : (l.board == ((i : Nat) : Int)) = false := by rw [beq_eq_false_iff_ne]; omega
          rw [h3, Bool.false_or, if_neg hq, Int.add_zero]
      rw [hsum, sumTo_add, sumTo_one, if_pos (by omega)]
      omega
def gA (j : Job) (sp : ByteArray) (p : Placed) : Int := if kindP j sp p = true then areaR p.at_ else 0
theorem pcs_sub {j : Job} {l : Layout} : ∀ {plan : List Layout}, l ∈ plan → (pcs j l).Sublist (plan.flatMap (pcs j))
  | [], h => absurd h (by simp)
  | m :: plan, h => by
    rw [List.flatMap_cons]
    rcases List.mem_cons.1 h with rfl | h
    · exact List.sublist_append_left _ _
    · exact (pcs_sub h).trans (List.sublist_append_right _ _)
theorem sumQ_area : ∀ L : List Placed, sumQ (fun p => areaR p.at_) L = ((L.map Placed.at_).map areaR).sum
  | [] => rfl
  | p :: L => by rw [sumQ, sumQ_area L]; rfl
theorem lay_areas {j : Job} {plan : List Layout} {sp : ByteArray} (h : (planE2 j plan).2 = 0) {l : Layout} (hl : l ∈ plan) : sumQ (gA j sp) (pcs j l) ≤ if onSp j sp l = true then soundAr (bdOf j l) j.trim else 0 := by
  have hJ := jobOk_of (plan_parts h).1
  obtain ⟨-, hin, hap⟩ := plan_sound h
  cases hh : hasP l
  · rw [pcs_none hh]
    unfold onSp
    rw [hh]
    exact Int.le_refl _
  · have hpc : ∀ p ∈ pcs j l, kindP j sp p = boardIs sp (bdOf j l) := fun p hp => by
      have hi := (hin p (mem_placesM hl hp)).kind
      unfold kindP
      rw [kind_sp hi, (pcs_board hp).1]
      rfl
    unfold onSp
    rw [hh, Bool.true_and]
    cases hs : boardIs sp (bdOf j l)
    · rw [sumQ_zero fun p hp => by unfold gA; rw [hpc p hp, hs]; rfl]
      exact Int.le_refl _
    · rw [if_pos rfl, sumQ_congr (g := fun p => areaR p.at_) fun p hp => by unfold gA; rw [hpc p hp, hs, if_pos rfl], sumQ_area]
      have hu : (usableR (bdOf j l) j.trim).x1 ≤ (usableR (bdOf j l) j.trim).x2 ∧ (usableR (bdOf j l) j.trim).y1 ≤ (usableR (bdOf j l) j.trim).y2 := by
        rcases whole_real ⟨j.trim.ends, j.trim.sides, (bdOf j l).length - j.trim.ends, (bdOf j l).width - j.trim.sides⟩ with e | e
        · rw [show usableR (bdOf j l) j.trim = zeroR from e]; decide
        · exact ⟨by have := e.1; unfold usableR; omega, by have := e.2; unfold usableR; omega⟩
      have hpw : (pcs j l).Pairwise fun p q => p.board = q.board → apart j.trim.kerf p.at_ q.at_ := by
        rw [placesM_flat] at hap
        exact hap.sublist (pcs_sub hl)
      have := rects_area (ds := (bdOf j l).defects) (l := (pcs j l).map Placed.at_) (u := usableR (bdOf j l) j.trim) hJ.trim.1.1 hu.1 hu.2
        (fun r hr => by
          obtain ⟨p, hp, rfl⟩ := List.mem_map.1 hr
          have hi := (hin p (mem_placesM hl hp)).inside
          rw [(pcs_board hp).1] at hi
          exact hi)
        (List.pairwise_map.2 (hpw.imp_of_mem fun {p q} hp hq hpq => hpq (by rw [(pcs_board hp).1, (pcs_board hq).1])))
        (fun r hr => by
          obtain ⟨p, hp, rfl⟩ := List.mem_map.1 hr
          have hi := (hin p (mem_placesM hl hp)).sound
          rw [(pcs_board hp).1] at hi
          exact hi)
      unfold soundAr
      omega
theorem need_sum {j : Job} {sp : ByteArray} : ∀ k, k ≤ j.blanks.length → needTo j sp k = sumTo k fun b => (bl j.blanks b).count * (if kindIs sp (bl j.blanks b) = true then (bl j.blanks b).length * (bl j.blanks b).width else 0)
  | 0, _ => by simp [needTo, sumTo]
  | k + 1, h => by
    have ih := need_sum (j := j) (sp := sp) k (by omega)
    have hk : k < j.blanks.length := h
    rw [sumTo, bl_get hk, ← ih]
    cases hs : (j.blanks[k].species.toList == sp.toList)
    · rw [needTo_no hk hs, if_neg (by unfold kindIs; rw [hs]; decide)]
      omega
    · rw [needTo_yes hk hs, if_pos (show kindIs sp j.blanks[k] = true from hs)]
      unfold blankA
      rw [Int.mul_comm j.blanks[k].count]
theorem need_pieces {j : Job} {plan : List Layout} {sp : ByteArray} (h : (planE2 j plan).2 = 0) : needL j sp = sumQ (gA j sp) (placesM j plan) := by
  unfold needL
  rw [need_sum _ (Nat.le_refl _), ← plan_count h, ← sumQ_sumP]
  refine sumQ_congr fun p hp => ?_
  have hi := (plan_sound h).2.1 p hp
  unfold gA kindP areaR
  rw [hi.size.1, hi.size.2]
/-- **No plan has fewer layouts with pieces of a species than its area wants.** -/
theorem areaSp_le {j : Job} {plan : List Layout} {sp : ByteArray} (h : (planE2 j plan).2 = 0) : ∃ m, areaSp j sp = some m ∧ m ≤ nSp j plan sp := by
  obtain ⟨hE, hlay, -⟩ := plan_parts h
  have hneed := need_pieces (sp := sp) h
  rw [placesM_flat, sumQ_flat] at hneed
  have hs := used_sum (j := j) (sp := sp) (c := fun l => sumQ (gA j sp) (pcs j l)) (layGo_apart hlay).2 (fun l hl => (layGo_ok hlay l hl).1) fun l hl => lay_areas h hl
  rw [← hneed, ← selI_sum] at hs
  obtain ⟨s, hs1, hs2⟩ := List.exists_perm_sublist (selI_sub (j := j) (sp := sp) (u := usedI j sp plan) j.stock.length (Nat.le_refl _)) (fallM_of (sizesL j sp)).1.symm
  have h2 := sub_sum hs2 (fallM_of (sizesL j sp)).2
  have e1 : ∀ {l l' : List Int}, l.Perm l' → l.sum = l'.sum := fun {l l'} hp => by
    induction hp with
    | nil => rfl
    | cons x _ ih => simp only [List.sum_cons, ih]
    | swap x y l => simp only [List.sum_cons]; omega
    | trans _ _ h1 h2 => rw [h1, h2]
  have e2 := e1 hs1
  have e3 := hs1.length_eq
  have e4 := selI_len (j := j) (sp := sp) (u := usedI j sp plan) j.stock.length
  have e5 := used_len (j := j) (sp := sp) (plan := plan) (n := j.stock.length)
  obtain ⟨m, h3, h4⟩ := enough_le (fallM (sizesL j sp)) (needL j sp) 0 s.length (by omega)
  exact ⟨m, h3, by omega⟩
theorem area_le {j : Job} {plan : List Layout} (h : (planE2 j plan).2 = 0) : areaE j = 0 ∧ areaV j ≤ withN plan := by
  have hall : areaAll j (kindsM j.blanks) = true := by
    unfold areaAll
    rw [List.all_eq_true]
    intro s _
    obtain ⟨m, hm, -⟩ := areaSp_le (sp := s) h
    rw [hm]; rfl
  unfold areaE areaV
  rw [if_pos hall, if_pos hall]
  refine ⟨rfl, ?_⟩
  have h1 := nSp_sum (j := j) (kinds_apart (l := j.blanks) j.blanks.length) plan
  have : ∀ L : List ByteArray, areaSum j L ≤ (L.map (nSp j plan)).sum := fun L => by
    induction L with
    | nil => exact Nat.le_refl _
    | cons s L ih =>
      unfold areaSum at ih ⊢
      obtain ⟨m, hm, h2⟩ := areaSp_le (sp := s) h
      rw [List.map_cons, List.map_cons, List.sum_cons, List.sum_cons, hm]
      simp only [Option.getD_some]
      omega
  have h2 := this (kindsM j.blanks)
  unfold kindsM at h2 ⊢
  omega
/-- **Bounds prove.** -/
theorem plan_proves {j : Job} {plan : List Layout} (h : (planE2 j plan).2 = 0) : jobE j = 0 ∧ (∀ x ∈ j.blanks, fitsP j x) ∧ areaE j = 0 ∧ areaV j ≤ withN plan ∧ (∀ a b, a ≤ 20 → b ≤ 20 → bndM j a b ≤ withN plan) ∧ (bestM j).1 ≤ withN plan := by
  refine ⟨(plan_parts h).1, plan_fits h, (area_le h).1, (area_le h).2, fun a b ha hb => bndM_le h ha hb, ?_⟩
  exact (bbAll_bd (j := j) (B := (withN plan : Nat)) (by omega) (fun a b ha hb => by have := bndM_le (k0 := a) (k1 := b) h ha hb; omega) 6 (by omega)).2
end Go.Proofs.YtpaindkfbgoogaaGreat
/- The number of layouts that have a piece: the law's own count. -/
set_option linter.unusedVariables false
set_option linter.unusedSimpArgs false
namespace Go.Proofs.YtpaindkfbgoogaaGreat
open Go Go.RowKit Go.Sort Go.Lib

theorem with_step {plan : List Layout} {k : Nat} (hk : k < plan.length) : (plan.take (k + 1)).countP hasP = (plan.take k).countP hasP + if hasP plan[k] = true then 1 else 0 := by
  rw [List.take_succ_eq_append_getElem hk, List.countP_append, List.countP_cons, List.countP_nil, Nat.zero_add]
theorem has_step {l : List Cut} {k : Nat} (hk : k < l.length) : (l.take (k + 1)).any isPieceC = ((l.take k).any isPieceC || isPieceC l[k]) := by
  rw [List.take_succ_eq_append_getElem hk, List.any_append]; simp
set_option maxRecDepth 100000 in
set_option maxHeartbeats 8000000 in
theorem with_any (plan : List Layout) (ap : Option Addr) (cp : Nat) (w : World) (hp : Layouts.V w ap plan) (hl : plan.length ≤ 1000) (hcu : ∀ l ∈ plan, l.cuts.length ≤ 100000) :
    Calls Tryz.prog 20 #[.slice ap plan.length cp] w fun e w' => e = .returned (.int .i64 ((withN plan : Nat) : Int)) ∧ Below w.heap.size w w' := by
  have HPV := Lib.hid hp
  have HCU := Lib.hid hcu
  obtain ⟨N, hN⟩ : ∃ N, N = withN plan := ⟨_, rfl⟩
  have HN := Lib.hid (show N = (plan.take plan.length).countP hasP by rw [List.take_length]; exact hN)
  rw [← hN]
  clear hN hp hcu
  go_enter Tryz.func20, Tryz.ntmps20
  go_wp2_with fail
  go_loopw [3, 4] (fun nv iv wr => ∃ k n : Nat, k ≤ plan.length ∧ n ≤ k ∧ iv = .int .i64 k ∧ nv = .int .i64 n ∧ Hid (n = (plan.take k).countP hasP) ∧ Below w.heap.size w wr) (fun _ iv _ => plan.length - (intOf iv).toNat)
  case atStart => exact ⟨0, 0, Nat.zero_le _, Nat.le_refl _, rfl, rfl, Lib.hid rfl, Below.refl _ _⟩
  case round =>
    obtain ⟨k, n, hk, hnk, rfl, rfl, HK, hbr⟩ := hrel
    have HB := Lib.hid hbr
    by_cases hlt : k < plan.length
    · have hki : (k : Int) < (plan.length : Int) := by omega
      have v1 : IntKind.i64.wrap ((k : Int) + 1) = (k : Int) + 1 := IntWalk.i64_in _ (by omega)
      obtain ⟨b, off, ha, ad, cd, m0, m1, hC, -⟩ := (HPV.out.keep hbr).at_ hlt
      subst ha
      have HCV := Lib.hid hC
      have HM1 := Lib.hid m1
      have HST := Lib.hid (with_step hlt)
      have hcl := HCU.out _ (List.getElem_mem hlt)
      have hhp : hasP plan[k] = plan[k].cuts.any isPieceC := rfl
      rw [hhp] at HST
      clear hbr hC hhp m0 m1
      generalize plan[k].cuts = cs at *
      obtain ⟨w1, rfl⟩ : ∃ w1, w1 = wr := ⟨_, rfl⟩
      go_wp2_with fail
      go_loopw [5, 6] (fun hv iv wr => ∃ (m : Nat) (h : Bool), m ≤ cs.length ∧ iv = .int .i64 m ∧ hv = .bool h ∧ Hid (h = (cs.take m).any isPieceC) ∧ Below w1.heap.size w1 wr) (fun _ iv _ => cs.length - (intOf iv).toNat)
      case atStart => exact ⟨0, false, Nat.zero_le _, rfl, rfl, Lib.hid rfl, Below.refl _ _⟩
      case round =>
        obtain ⟨m, h, hm, rfl, rfl, HH, hbi⟩ := hrel
        have HBI := Lib.hid hbi
        have m1 := cell_keep hbi HM1.out
        by_cases hmlt : m < cs.length
        · have hmi : (m : Int) < (cs.length : Int) := by omega
          have v2 : IntKind.i64.wrap ((m : Int) + 1) = (m : Int) + 1 := IntWalk.i64_in _ (by omega)
          obtain ⟨bc, oc, hc, x0, x1, x2, x3, x4, -⟩ := (HCV.out.keep hbi).at_ hmlt
          subst hc
          have HHS := Lib.hid (has_step hmlt)
          have hpc : isPieceC cs[m] = (decide (cs[m].low = 0) && decide (0 ≤ cs[m].blank)) := rfl
          rw [hpc] at HHS
          clear hbi hpc x0 x1 x3
          generalize cs[m].low = lo at *
          generalize cs[m].blank = bk at *
          cases h with
          | true =>
            go_wp2_with fail
            go_roundw
            case rel => exact ⟨m + 1, true, by omega, by go_num, rfl, Lib.hid (by rw [HHS.out, ← HH.out]; rfl), HBI.out⟩
            case measure => first | (simp [intOf]; done) | (simp [intOf]; omega)
          | false =>
            by_cases hlo : lo = 0
            · subst hlo
              by_cases hbk : 0 ≤ bk
              · have hge : bk ≥ 0 := hbk
                go_wp2_with fail
                go_roundw
                case rel => exact ⟨m + 1, true, by omega, by go_num, rfl, Lib.hid (by rw [HHS.out, ← HH.out]; simp [hbk]), HBI.out⟩
                case measure => first | (simp [intOf]; done) | (simp [intOf]; omega)
              · have hge : ¬ bk ≥ 0 := hbk
                go_wp2_with fail
                go_roundw
                case rel => exact ⟨m + 1, false, by omega, by go_num, rfl, Lib.hid (by rw [HHS.out, ← HH.out]; simp [hbk]), HBI.out⟩
                case measure => first | (simp [intOf]; done) | (simp [intOf]; omega)
            · have hlq : (lo == 0) = false := by simpa using hlo
              go_wp2_with fail
              go_roundw
              case rel => exact ⟨m + 1, false, by omega, by go_num, rfl, Lib.hid (by rw [HHS.out, ← HH.out]; simp [hlo]), HBI.out⟩
              case measure => first | (simp [intOf]; done) | (simp [intOf]; omega)
        · obtain rfl : m = cs.length := by omega
          have hmi : ¬ ((cs.length : Nat) : Int) < ((cs.length : Nat) : Int) := by omega
          have HB2 := Lib.hid (HB.out.trans (hbi.mono HB.out.size))
          have HHE := Lib.hid (show h = cs.any isPieceC by rw [HH.out, List.take_length])
          have v3 : IntKind.i64.wrap ((n : Int) + 1) = (n : Int) + 1 := IntWalk.i64_in _ (by omega)
          clear hbi
          cases h with
          | true =>
            go_wp2_with fail
            go_roundw
            case rel => exact ⟨k + 1, n + 1, by omega, by omega, by go_num, by go_num, Lib.hid (by rw [HST.out, ← HHE.out, ← HK.out]; rfl), HB2.out⟩
            case measure => first | (simp [intOf]; done) | (simp [intOf]; omega)
          | false =>
            go_wp2_with fail
            go_roundw
            case rel => exact ⟨k + 1, n, by omega, by omega, by go_num, rfl, Lib.hid (by rw [HST.out, ← HHE.out, ← HK.out]; rfl), HB2.out⟩
            case measure => first | (simp [intOf]; done) | (simp [intOf]; omega)
    · obtain rfl : k = plan.length := by omega
      have hki : ¬ ((plan.length : Nat) : Int) < ((plan.length : Nat) : Int) := by omega
      have HNE := Lib.hid (show n = N by rw [HK.out, HN.out])
      clear hbr
      go_wp2_with fail
      go_ret
      exact ⟨by rw [HNE.out]; rfl, HB.out⟩
end Go.Proofs.YtpaindkfbgoogaaGreat
