/- Offcuts of a plan are boards of a stock (plain): their names, their sizes, their defects. -/
import Derived.Test.YtjmgboipbhddlaaGreatDoorOX
import Derived.Test.YtjmgboipbhddlaaGreatDoorTE
set_option linter.unusedVariables false
set_option linter.unusedSimpArgs false
namespace Go.Proofs.YtjmgboipbhddlaaGreatDoor
open Go Go.RowKit Go.Lib

/-- The decimals of a number below 1000. -/
def ddL (u : Nat) : List UInt8 := if u < 10 then [UInt8.ofNat (48 + u)] else if u < 100 then [UInt8.ofNat (48 + u / 10), UInt8.ofNat (48 + u % 10)] else [UInt8.ofNat (48 + u / 100), UInt8.ofNat (48 + u / 10 % 10), UInt8.ofNat (48 + u % 10)]
theorem dec_dd {u : Nat} (h : u < 1000) : decDigits u = ddL u := by
  unfold ddL
  by_cases h1 : u < 10
  · rw [if_pos h1, decDigits_one h1]
  · rw [if_neg h1]
    by_cases h2 : u < 100
    · rw [if_pos h2, decDigits_two h1 h2]
    · rw [if_neg h2, decDigits, dif_neg h1, decDigits_two (by omega) (by omega), Nat.div_div_eq_div_mul]
      rfl
def nmL (u : Nat) : ByteArray := ⟨(111 :: ddL u).toArray⟩
theorem nm_nmL {u : Nat} (h : u < 1000) : nmO u = nmL u := by
  unfold nmO itoa nmL
  rw [if_neg (by omega), Int.toNat_natCast, dec_dd h, baOf_app]
  rfl
theorem nmL_name : ∀ u, u < 101 → nameB (nmL u) = true := by decide +kernel
theorem nmL_inj : ∀ u, u < 101 → ∀ v, v < 101 → (nmL u).toList = (nmL v).toList → u = v := by decide +kernel
theorem nmO_name {u : Nat} (h : u < 101) : nameB (nmO u) = true := by rw [nm_nmL (by omega)]; exact nmL_name u h
theorem nmO_ne {u v : Nat} (h : u < 101) (h2 : v < 101) (hn : u ≠ v) : ((nmO u).toList == (nmO v).toList) = false := by
  rw [nm_nmL (by omega), nm_nmL (by omega), beq_eq_false_iff_ne]
  exact fun e => hn (nmL_inj u h v h2 e)

/-- What each offcut is. -/
structure OffIs (j : Job) (n0 n1 : Int) (k : Nat) (x : Board) : Prop where
  nm : x.name = nmO (k + 1)
  sp : ∃ b ∈ j.stock, x.species = b.species
  ok : k < 100 → boardErr x = 0
  l0 : n0 ≤ x.length
  l1 : n1 ≤ x.width
theorem boardGo_all {l wd : Int} : ∀ {ds : List Rect}, (∀ d ∈ ds, 0 ≤ d.x1 ∧ d.x1 < d.x2 ∧ d.x2 ≤ l ∧ 0 ≤ d.y1 ∧ d.y1 < d.y2 ∧ d.y2 ≤ wd) → boardGo l wd ds = 0
  | [], _ => rfl
  | d :: ds, h => by
    have h1 := h d (by simp)
    have h2 : rectIn l wd d = 0 := by unfold rectIn; rw [if_neg (by omega), if_neg (by omega)]
    rw [boardGo, if_neg (by rw [h2]; simp)]
    exact boardGo_all fun x hx => h x (List.mem_cons_of_mem _ hx)
theorem withinB_of {n lo hi : Int} (h : lo ≤ n ∧ n ≤ hi) : withinB n lo hi = true := by unfold withinB; simp [h.1, h.2]
theorem board_rest {b : Board} (h : boardErr b = 0) : withinB b.thick 1 20000 = true ∧ withinB b.cut 0 1 = true ∧ withinB b.moisture 0 400 = true := by
  unfold boardErr at h
  split at h
  · cases h
  · split at h
    · cases h
    · rename_i h2
      refine ⟨?_, ?_, ?_⟩
      · cases hc : withinB b.thick 1 20000; exact absurd (.inr (.inr (.inl hc))) h2; rfl
      · cases hc : withinB b.cut 0 1; exact absurd (.inr (.inr (.inr (.inl hc)))) h2; rfl
      · cases hc : withinB b.moisture 0 400; exact absurd (.inr (.inr (.inr (.inr hc)))) h2; rfl
theorem off_is {j : Job} (hE : jobE j = 0) {b : Board} (hm : b ∈ j.stock) {r : Rect} {n0 n1 : Int} {k : Nat} (hn : 1 ≤ n0 ∧ 1 ≤ n1) (hr : okR r) (hin : r.y2 ≤ b.width ∧ r.x2 ≤ b.length) (h0 : n0 ≤ r.x2 - r.x1) (h1 : n1 ≤ r.y2 - r.y1) : OffIs j n0 n1 k (offB b r (nmO (k + 1))) := by
  have hb := (jobE_parts hE).boards b hm
  have hbo := boardErr_ok hb
  obtain ⟨w1, w2, w3⟩ := board_rest hb
  have hp : proper r := by
    rcases hr with rfl | h
    · simp at h0; omega
    · exact h
  unfold proper at hp
  refine ⟨rfl, ⟨b, hm, rfl⟩, fun hk => ?_, h0, h1⟩
  have g1 : withinB (r.x2 - r.x1) 1 600000 = true := withinB_of (by omega)
  have g2 : withinB (r.y2 - r.y1) 1 100000 = true := withinB_of (by have := hbo.2.1.2.1; omega)
  have g3 := nmO_name (u := k + 1) (by omega)
  have g4 := hbo.1.2
  have g5 : (offD b.defects r).length ≤ 60 := Nat.le_trans offD_len hbo.2.2.1
  have g6 : boardGo (r.x2 - r.x1) (r.y2 - r.y1) (offD b.defects r) = 0 := boardGo_all (partsR_in (r := r) (by omega) fun d hd => by have := stock_in hE hm d hd; omega)
  unfold boardErr offB
  simp only
  rw [g1, g2, g3, g4, w1, w2, w3, g6, if_neg (by simp), if_neg (by simp), if_neg (by omega)]
theorem offTo_is {j : Job} (hE : jobE j = 0) {b : Board} (hm : b ∈ j.stock) {l : Layout} {R : List Rect} {n0 n1 : Int} {acc : List Board} (hn : 1 ≤ n0 ∧ 1 ≤ n1) (hR : ∀ r ∈ R, okR r) (hin : ∀ r ∈ R, r.y2 ≤ b.width ∧ r.x2 ≤ b.length) (ha : ∀ i (hi : i < acc.length), OffIs j n0 n1 i acc[i]) : ∀ k i (hi : i < (offTo b l R n0 n1 acc k).length), OffIs j n0 n1 i (offTo b l R n0 n1 acc k)[i]
  | 0 => ha
  | k + 1 => fun i hi => by
    by_cases ho : isOff l R n0 n1 k
    · have e : offTo b l R n0 n1 acc (k + 1) = offTo b l R n0 n1 acc k ++ [offB b (rectF R k) (nmO ((offTo b l R n0 n1 acc k).length + 1))] := by rw [offTo, if_pos ho]
      simp only [e] at hi ⊢
      by_cases h2 : i < (offTo b l R n0 n1 acc k).length
      · rw [List.getElem_append_left h2]; exact offTo_is hE hm hn hR hin ha k i h2
      · rw [List.length_append, List.length_singleton] at hi
        obtain rfl : i = (offTo b l R n0 n1 acc k).length := by omega
        rw [List.getElem_append_right (Nat.le_refl _)]
        simp only [Nat.sub_self, List.getElem_cons_zero]
        obtain ⟨-, h3, h4⟩ := ho
        have hkR : k < R.length := by
          refine Decidable.byContradiction fun hc => ?_
          have : rectF R k = zeroR := by unfold rectF; rw [List.getD_eq_getElem?_getD, List.getElem?_eq_none (by omega)]; rfl
          rw [this] at h3
          have : zeroR.x2 - zeroR.x1 = 0 := rfl
          omega
        have hmR : rectF R k ∈ R := by unfold rectF; rw [List.getD_eq_getElem?_getD, List.getElem?_eq_getElem hkR]; exact List.getElem_mem hkR
        exact off_is hE hm hn (hR _ hmR) (hin _ hmR) h3 h4
    · have e : offTo b l R n0 n1 acc (k + 1) = offTo b l R n0 n1 acc k := by rw [offTo, if_neg ho]
      simp only [e] at hi ⊢
      exact offTo_is hE hm hn hR hin ha k i hi
/-- Each region lies within the board. -/
theorem layR_in {j : Job} (hE : jobE j = 0) {l : Layout} (hb : 0 ≤ l.board ∧ l.board < j.stock.length) (hl : (layOf j l).2 = 0) : ∀ r ∈ (layOf j l).1, r.y2 ≤ (bdOfL j l).width ∧ r.x2 ≤ (bdOfL j l).length := by
  have hlt : l.board.toNat < j.stock.length := by omega
  have hm : bdOfL j l ∈ j.stock := by unfold bdOfL; rw [List.getD_eq_getElem?_getD, List.getElem?_eq_getElem hlt]; exact List.getElem_mem hlt
  have hJ := jobOk_of hE
  obtain ⟨s1, s2⟩ := hJ.size _ hm
  have htr := hJ.trim
  have hreg : layOf j l = regM (usableR (bdOfL j l) j.trim) j.trim.kerf l.cuts := rfl
  obtain ⟨hlen, -, -⟩ := lay_okR hE hb hl
  rw [hreg] at hl hlen ⊢
  have hu : usableR (bdOfL j l) j.trim = zeroR ∨ ((usableR (bdOfL j l) j.trim).x1 < (usableR (bdOfL j l) j.trim).x2 ∧ (usableR (bdOfL j l) j.trim).y1 < (usableR (bdOfL j l) j.trim).y2) := by
    unfold usableR wholeR
    split
    · exact .inl rfl
    · rename_i h; simp only at h; exact .inr (by simp only; omega)
  have hub : (usableR (bdOfL j l) j.trim).y2 ≤ (bdOfL j l).width ∧ (usableR (bdOfL j l) j.trim).x2 ≤ (bdOfL j l).length := by
    unfold usableR wholeR
    split
    · simp only; omega
    · simp only; omega
  intro r hr
  obtain ⟨i, hi, rfl⟩ := List.getElem_of_mem hr
  have h9 := (reg_apart hu htr.1.1 hl).1 i (by omega)
  have e : rectF (regM (usableR (bdOfL j l) j.trim) j.trim.kerf l.cuts).1 i = (regM (usableR (bdOfL j l) j.trim) j.trim.kerf l.cuts).1[i] := by unfold rectF; rw [List.getD_eq_getElem?_getD, List.getElem?_eq_getElem hi]; rfl
  rw [e] at h9
  rcases h9 with h9 | h9
  · rw [h9]; exact ⟨show (0 : Int) ≤ _ by omega, show (0 : Int) ≤ _ by omega⟩
  · unfold within at h9; omega
theorem offPlan_is {j : Job} (hE : jobE j = 0) {plan : List Layout} {n0 n1 : Int} (hn : 1 ≤ n0 ∧ 1 ≤ n1) (hok : PlanOk j plan) : ∀ k, k ≤ plan.length → ∀ i (hi : i < (offPlan j plan n0 n1 k).length), OffIs j n0 n1 i (offPlan j plan n0 n1 k)[i]
  | 0, _ => fun i hi => absurd hi (by simp [offPlan])
  | k + 1, h => by
    have hk : k < plan.length := h
    have hl := hok _ (List.getElem_mem hk)
    have hlt : plan[k].board.toNat < j.stock.length := by omega
    have hm : bdOfL j plan[k] ∈ j.stock := by unfold bdOfL; rw [List.getD_eq_getElem?_getD, List.getElem?_eq_getElem hlt]; exact List.getElem_mem hlt
    obtain ⟨-, -, hR⟩ := lay_okR hE hl.1 hl.2
    have := offTo_is hE hm (l := plan[k]) hn hR (layR_in hE hl.1 hl.2) (offPlan_is hE hn hok k (by omega)) plan[k].cuts.length
    intro i hi
    simp only [offPlan_step hk] at hi ⊢
    exact this i hi
theorem stGo_names {l : List Species} : ∀ (st : List Board) (k : Nat) (pre : List ByteArray), pre.length = k → (∀ i (hi : i < pre.length), pre[i] = nmO (i + 1)) → (k + st.length ≤ 100) → (∀ i (hi : i < st.length), st[i].name = nmO (k + i + 1) ∧ listedE l st[i] = 0) → stGo l pre st = 0
  | [], _, _, _, _, _, _ => rfl
  | b :: r, k, pre, hp, hn, hl, h => by
    have h0 := h 0 (by simp)
    simp only [List.getElem_cons_zero, Nat.add_zero] at h0
    rw [List.length_cons] at hl
    rw [stGo, if_neg (by rw [h0.2]; simp), if_neg]
    · refine stGo_names r (k + 1) (pre ++ [b.name]) (by simp [hp]) (fun i hi => ?_) (by omega) fun i hi => ?_
      · by_cases hc : i < pre.length
        · rw [List.getElem_append_left hc]; exact hn i hc
        · rw [List.length_append, List.length_singleton] at hi
          obtain rfl : i = pre.length := by omega
          rw [List.getElem_append_right (Nat.le_refl _)]
          simp only [Nat.sub_self, List.getElem_cons_zero]
          rw [h0.1, hp]
      · have := h (i + 1) (by simp; omega)
        simp only [List.getElem_cons_succ] at this
        rw [show k + 1 + i + 1 = k + (i + 1) + 1 by omega]
        exact this
    · rw [Bool.not_eq_true, List.any_eq_false]
      intro t ht
      obtain ⟨i, hi, rfl⟩ := List.getElem_of_mem ht
      rw [hn i hi, h0.1, nmO_ne (by omega) (by omega) (by omega)]
      decide
/-- **The offcuts are a stock.** -/
theorem off_stock {j : Job} (hE : jobE j = 0) (h40 : j.stock.length ≤ 40) {o : List Board} {n0 n1 : Int} (ho : ∀ i (hi : i < o.length), OffIs j n0 n1 i o[i]) (hl : o.length ≤ 100) : checkStockE (woodsTo j.stock j.stock.length) o = 0 := by
  have hp := jobE_parts hE
  have hw := woods_len j.stock j.stock.length
  have hg := woods_go (fun b hb => boards_names (hp.boards b hb)) j.stock.length (Nat.le_refl _)
  have hc : checkSpecies (woodsTo j.stock j.stock.length) = 0 := by unfold checkSpecies; rw [if_neg (by omega)]; exact hg
  unfold checkStockE
  rw [if_neg (by rw [hc]; simp), if_neg (by omega)]
  refine stGo_names o 0 [] rfl (fun i hi => absurd hi (by simp)) (by omega) fun i hi => ⟨?_, ?_⟩
  · rw [(ho i hi).nm]; simp
  · obtain ⟨b, hb, hs⟩ := (ho i hi).sp
    have h9 := (ho i hi).ok (by omega)
    unfold listedE
    rw [if_neg (by rw [h9]; simp), if_neg]
    obtain ⟨m, hm, rfl⟩ := List.getElem_of_mem hb
    have := woods_find j.stock j.stock.length m hm
    rw [List.getD_eq_getElem?_getD, List.getElem?_eq_getElem hm] at this
    rw [hs]
    simp only [Option.getD_some] at this
    omega
end Go.Proofs.YtjmgboipbhddlaaGreatDoor
