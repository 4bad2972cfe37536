/- The normal form of planes has the same points and the same corners (plain). -/
import Derived.Test.YtgjmfdhgeahdcaaGreatQC
set_option linter.unusedVariables false
set_option linter.unusedSimpArgs false
namespace Go.Proofs.YtgjmfdhgeahdcaaGreat

def addP (a b : Co) : Co := ⟨a.x + b.x, a.y + b.y, a.z + b.z, a.n + b.n⟩
theorem EE_add (p : Pl) (a b : Co) : EE p (addP a b) = EE p a + EE p b := by unfold EE dt nrm vec addP; simp only; grind
def smul (k : Int) (a : Co) : Co := ⟨k * a.x, k * a.y, k * a.z, k * a.n⟩
theorem EE_smul (p : Pl) (k : Int) (a : Co) : EE p (smul k a) = k * EE p a := by unfold EE dt nrm vec smul; simp only; grind
/-- The planes leave a point strictly within. -/
def Inner (l : List Pl) (o : Co) : Prop := 0 < o.n ∧ ∀ p ∈ l, EE p o < 0
theorem sum_corners : ∀ cs : List Co, cs ≠ [] → (∀ c ∈ cs, 0 < c.n) → ∃ o : Co, 0 < o.n ∧ ∀ p : Pl, (∀ c ∈ cs, EE p c ≤ 0) → EE p o ≤ 0 ∧ ((∃ c ∈ cs, EE p c < 0) → EE p o < 0) ∧ ((∀ c ∈ cs, EE p c = 0) → EE p o = 0)
 | [], h, _ => absurd rfl h
 | [c], _, hn => ⟨c, hn c (by simp), fun p hp => ⟨hp c (by simp), fun ⟨d, hd, h⟩ => by simp at hd; subst hd; exact h, fun h => h c (by simp)⟩⟩
 | c :: d :: cs, _, hn => by
  obtain ⟨o, ho, h⟩ := sum_corners (d :: cs) (by simp) fun x hx => hn x (List.mem_cons_of_mem _ hx)
  refine ⟨addP c o, ?_, fun p hp => ?_⟩
  ·have := hn c (by simp); show 0 < c.n + o.n; omega
  ·have h1 := hp c (by simp)
   obtain ⟨h2, h3, h4⟩ := h p fun x hx => hp x (List.mem_cons_of_mem _ hx)
   rw [EE_add]
   refine ⟨by omega, fun ⟨x, hx, hlt⟩ => ?_, fun h0 => ?_⟩
   ·rcases List.mem_cons.1 hx with rfl | hx
    ·omega
    ·have := h3 ⟨x, hx, hlt⟩; omega
   ·have e1 := h0 c (by simp)
    have e2 := h4 fun x hx => h0 x (List.mem_cons_of_mem _ hx)
    omega
theorem insid_iff {l : List Pl} {cs : List Co} : insid l cs = true ↔ ∀ p ∈ l, ∃ c ∈ cs, EE p c < 0 := by
 unfold insid
 simp only [List.all_eq_true, List.any_eq_true, decide_eq_true_eq, sd_neg]
theorem inner_of {l : List Pl} (hne : l ≠ []) (h : insid l (corn l) = true) : ∃ o, Inner l o := by
 rw [insid_iff] at h
 obtain ⟨p, hp⟩ := List.exists_mem_of_ne_nil _ hne
 have hcs : corn l ≠ [] := fun e => by obtain ⟨c, hc, _⟩ := h p hp; rw [e] at hc; simp at hc
 obtain ⟨o, ho, hall⟩ := sum_corners (corn l) hcs fun c hc => (corn_low c hc).pos
 exact ⟨o, ho, fun q hq => (hall q fun c hc => (corn_inB hc).2 q hq).2.1 (h q hq)⟩
/-! A least set of planes with the same points. -/
def Irred (S : List Pl) : Prop := ∀ p ∈ S, ∃ c : Co, 0 < c.n ∧ (∀ q ∈ S, q ≠ p → EE q c ≤ 0) ∧ 0 < EE p c
theorem irred_of : ∀ (n : Nat) (l : List Pl), l.length ≤ n → ∃ S, (∀ p ∈ S, p ∈ l) ∧ (∀ c : Co, InB S c → InB l c) ∧ Irred S
 | 0, l, h => by
  have : l = [] := List.length_eq_zero_iff.1 (by omega)
  subst this
  exact ⟨[], by simp, fun c h => h, fun p hp => absurd hp (by simp)⟩
 | n + 1, l, h => by
  by_cases hi : Irred l
  ·exact ⟨l, fun _ h => h, fun _ h => h, hi⟩
  ·have : ∃ p ∈ l, ∀ c : Co, 0 < c.n → (∀ q ∈ l, q ≠ p → EE q c ≤ 0) → EE p c ≤ 0 := by
     apply Classical.byContradiction
     intro hno
     apply hi
     intro p hp
     apply Classical.byContradiction
     intro hno2
     apply hno
     refine ⟨p, hp, fun c hc hq => ?_⟩
     rcases Int.lt_or_le 0 (EE p c) with h | h
     ·exact absurd ⟨c, hc, hq, h⟩ hno2
     ·exact h
   obtain ⟨p, hp, hred⟩ := this
   have hlen : (l.filter (fun q => decide (q ≠ p))).length < l.length := by
    apply List.length_filter_lt_length_iff_exists.2
    exact ⟨p, hp, by simp⟩
   obtain ⟨S, h1, h2, h3⟩ := irred_of n (l.filter (fun q => decide (q ≠ p))) (by omega)
   refine ⟨S, fun q hq => (List.mem_filter.1 (h1 q hq)).1, fun c hc => ?_, h3⟩
   obtain ⟨hn, hf⟩ := h2 c hc
   have hf' : ∀ q ∈ l, q ≠ p → EE q c ≤ 0 := fun q hq hne => hf q (List.mem_filter.2 ⟨hq, by simpa using hne⟩)
   refine ⟨hn, fun q hq => ?_⟩
   by_cases e : q = p
   ·subst e; exact hred c hn hf'
   ·exact hf' q hq e
/-! A face. -/
theorem EE_opp (p : Pl) (c : Co) : EE (opp p) c = -EE p c := by unfold EE dt nrm opp; simp only; grind
theorem NoRay.mono {l m : List Pl} (h : NoRay l) (hs : ∀ p ∈ l, p ∈ m) : NoRay m := fun v hv => let ⟨q, hq, h0⟩ := h v hv; ⟨q, hs q hq, h0⟩
theorem det_opp1 (p q r : Pl) : det (opp p) q r = -det p q r := by unfold det dt crs nrm opp; simp only; grind
theorem face_corn {l : List Pl} {p : Pl} (hp : p ∈ l) {c : Co} (hc : c ∈ corn (opp p :: l)) : c ∈ corn l ∧ EE p c = 0 := by
 obtain ⟨hlow, hin, q, hq, r, hr, s, hs, hd, h1, h2, h3⟩ := mem_corn_iff.1 hc
 have e1 := hin (opp p) List.mem_cons_self
 have e2 := hin p (List.mem_cons_of_mem _ hp)
 rw [EE_opp] at e1
 have e0 : EE p c = 0 := by omega
 refine ⟨mem_corn_iff.2 ⟨hlow, fun t ht => hin t (List.mem_cons_of_mem _ ht), ?_⟩, e0⟩
 have k1 : ∀ q r s : Pl, q ∈ opp p :: l → det q r s ≠ 0 → EE q c = 0 → ∃ q' ∈ l, det q' r s ≠ 0 ∧ EE q' c = 0 := by
  intro q r s hq hd h
  rcases List.mem_cons.1 hq with rfl | hq
  ·exact ⟨p, hp, fun e => hd (by rw [det_opp1, e]; rfl), e0⟩
  ·exact ⟨q, hq, hd, h⟩
 obtain ⟨q', hq', hd1, h1'⟩ := k1 q r s hq hd h1
 obtain ⟨r', hr', hd2, h2'⟩ := k1 r q' s hr (by rw [det_swap12]; omega) h2
 obtain ⟨s', hs', hd3, h3'⟩ := k1 s r' q' hs (by have e1 := det_swap12 r' s q'; have e2 := det_swap23 r' q' s; omega) h3
 exact ⟨s', hs', r', hr', q', hq', hd3, h3', h2', h1'⟩
/-- A direction along a plane, across the way from one point of it to another. -/
theorem across {p : Pl} (hp : nrm p ≠ v0) (a b : Co) (ha : EE p a = 0) (hb : EE p b = 0) : ∃ u : Vec, u ≠ v0 ∧ dt (nrm p) u = 0 ∧ dt u (vec a) * b.n = dt u (vec b) * a.n := by
 by_cases h : crs (nrm p) ⟨b.x * a.n - a.x * b.n, b.y * a.n - a.y * b.n, b.z * a.n - a.z * b.n⟩ = v0
 ·obtain ⟨u, hu, hpu⟩ := ortho (a := nrm p)
  refine ⟨u, hu, hpu, ?_⟩
  have hw : dt (nrm p) ⟨b.x * a.n - a.x * b.n, b.y * a.n - a.y * b.n, b.z * a.n - a.z * b.n⟩ = 0 := by
   unfold EE dt vec nrm at *; simp only at *; grind
  generalize hW : (⟨b.x * a.n - a.x * b.n, b.y * a.n - a.y * b.n, b.z * a.n - a.z * b.n⟩ : Vec) = W at *
  have h0 : W = v0 := by
   apply Classical.byContradiction
   intro hne
   have h1 : dt (crs (nrm p) W) (crs (nrm p) W) = dt (nrm p) (nrm p) * dt W W := by unfold dt at hw ⊢; unfold crs; simp only; grind
   rw [h] at h1
   have h2 : dt v0 v0 = 0 := by unfold dt v0; simp
   have h3 := Int.mul_pos (sq_pos hp) (sq_pos hne)
   omega
  rw [h0] at hW
  unfold v0 at hW
  simp only [Vec.mk.injEq] at hW
  obtain ⟨w1, w2, w3⟩ := hW
  unfold dt vec; simp only; grind
 ·refine ⟨_, h, crs_dt1 _ _, ?_⟩
  have := crs_dt2 (nrm p) ⟨b.x * a.n - a.x * b.n, b.y * a.n - a.y * b.n, b.z * a.n - a.z * b.n⟩
  generalize crs (nrm p) ⟨b.x * a.n - a.x * b.n, b.y * a.n - a.y * b.n, b.z * a.n - a.z * b.n⟩ = u at *
  unfold dt vec at *; simp only at *; grind
theorem big_k (f : Pl → Int) : ∀ l : List Pl, ∃ k : Int, 0 < k ∧ ∀ q ∈ l, f q ≤ k
 | [] => ⟨1, by omega, fun q h => absurd h (by simp)⟩
 | x :: l => by
  obtain ⟨k, hk, h⟩ := big_k f l
  by_cases hx : f x ≤ k
  ·exact ⟨k, hk, fun q hq => (List.mem_cons.1 hq).elim (fun e => by subst e; exact hx) (h q)⟩
  ·refine ⟨f x, by omega, fun q hq => ?_⟩
   rcases List.mem_cons.1 hq with rfl | hq
   ·exact Int.le_refl _
   ·have := h q hq; omega
/-- A plane on which a point lies with room on all sides: the way along it. -/
theorem wiggle {S : List Pl} {z : Co} (hz : 0 < z.n) (T : Pl → Prop) (hs : ∀ q ∈ S, EE q z < 0 ∨ (EE q z = 0 ∧ T q)) (u : Vec) (hu : ∀ q ∈ S, T q → dt (nrm q) u ≤ 0) : ∃ k : Int, 0 < k ∧ InB S (mv k z 1 u) := by
 obtain ⟨k, hk, h⟩ := big_k (fun q => dt (nrm q) u) S
 refine ⟨k, hk, Int.mul_pos hk hz, fun q hq => ?_⟩
 rw [EE_mv]
 rcases hs q hq with h1 | ⟨h1, h2⟩
 ·have h3 := h q hq
  have h4 := Int.mul_nonneg (Int.le_of_lt hk) (show 0 ≤ -EE q z - 1 by omega)
  grind
 ·have := hu q hq h2
  rw [h1]; omega
theorem onN_list (p : Pl) (cs : List Co) : ∀ c, c ∈ cs.filter (fun c => decide (sd p c = 0)) ↔ c ∈ cs ∧ EE p c = 0 := by
 intro c; rw [List.mem_filter, decide_eq_true_eq, sd_zero]
theorem flat_le {A Aa Az n an zn : Int} (ha : 0 < an) (hn : 0 < n) (e : A * an = Aa * n) (f : Az * n ≤ A * zn) : Az * an ≤ Aa * zn := by
 have k := Int.mul_le_mul_of_nonneg_right f (Int.le_of_lt ha)
 refine Int.le_of_mul_le_mul_right (a := n) ?_ hn
 have e1 : Az * an * n = Az * n * an := by grind
 have e2 : Aa * zn * n = A * zn * an := by grind
 omega
theorem flat_ge {A Aa Az n an zn : Int} (ha : 0 < an) (hn : 0 < n) (e : A * an = Aa * n) (f : A * zn ≤ Az * n) : Aa * zn ≤ Az * an := by
 have k := Int.mul_le_mul_of_nonneg_right f (Int.le_of_lt ha)
 refine Int.le_of_mul_le_mul_right (a := n) ?_ hn
 have e1 : Az * an * n = Az * n * an := by grind
 have e2 : Aa * zn * n = A * zn * an := by grind
 omega
theorem flat_zero {A Z U an zn k : Int} (e : Z * an = A * zn) (f : (k * Z + U) * an = A * (k * zn)) : U * an = 0 := by grind
/-- On a plane with a point that has room along it there are three corners at least. -/
theorem three_on {l : List Pl} (hl : NoRay l) {p : Pl} (hp : p ∈ l) (hn : nrm p ≠ v0) {z : Co} (hz : InB l z) (hz0 : EE p z = 0)
    (hw : ∀ u : Vec, dt (nrm p) u = 0 → ∃ k : Int, 0 < k ∧ InB l (mv k z 1 u)) : 3 ≤ onN p (corn l) := by
 have hface : NoRay (opp p :: l) := hl.mono fun q hq => List.mem_cons_of_mem _ hq
 have hzf : ∀ z', InB l z' → EE p z' = 0 → InB (opp p :: l) z' := fun z' h1 h2 => ⟨h1.1, fun q hq => by
  rcases List.mem_cons.1 hq with rfl | hq
  ·rw [EE_opp, h2]; exact Int.le_refl _
  ·exact h1.2 q hq⟩
 -- if all corners on the plane have the same place along u, so has every point
 have flat : ∀ (a : Co) (u : Vec), 0 < a.n → u ≠ v0 → dt (nrm p) u = 0 → (∀ c ∈ corn l, EE p c = 0 → dt u (vec c) * a.n = dt u (vec a) * c.n) → False := by
  intro a u ha hu hpu hall
  have hval : ∀ z', InB l z' → EE p z' = 0 → dt u (vec z') * a.n = dt u (vec a) * z'.n := by
   intro z' h1 h2
   have hb := hzf z' h1 h2
   obtain ⟨c1, hc1, f1⟩ := corn_far hface hb ⟨u.x, u.y, u.z, 0⟩
   obtain ⟨c2, hc2, f2⟩ := corn_far hface hb ⟨-u.x, -u.y, -u.z, 0⟩
   obtain ⟨m1, m0⟩ := face_corn hp hc1
   obtain ⟨m2, m3⟩ := face_corn hp hc2
   have e1 := hall c1 m1 m0
   have e2 := hall c2 m2 m3
   have p1 := (corn_low c1 m1).pos
   have p2 := (corn_low c2 m2).pos
   unfold FarLe at f1 f2
   have g1 : ∀ c, EE ⟨u.x, u.y, u.z, 0⟩ c = dt u (vec c) := fun c => by unfold EE dt nrm; simp only; grind
   have g2 : ∀ c, EE ⟨-u.x, -u.y, -u.z, 0⟩ c = -dt u (vec c) := fun c => by unfold EE dt nrm; simp only; grind
   rw [g1, g1] at f1
   rw [g2, g2] at f2
   have hzn := h1.1
   refine Int.le_antisymm ?_ ?_
   ·exact flat_le ha p2 e2 (by rw [Int.neg_mul, Int.neg_mul] at f2; omega)
   ·exact flat_ge ha p1 e1 f1
  obtain ⟨k, hk, hin⟩ := hw u hpu
  have v1 := hval z hz hz0
  have v2 := hval _ hin (by rw [EE_mv, hz0, hpu]; simp)
  have e1 : dt u (vec (mv k z 1 u)) = k * dt u (vec z) + dt u u := by unfold dt vec mv; simp only; grind
  have e2 : (mv k z 1 u).n = k * z.n := rfl
  rw [e1, e2] at v2
  have h3 := Int.mul_pos (sq_pos hu) ha
  have h4 := flat_zero v1 v2
  omega
 unfold onN
 apply Classical.byContradiction
 intro hlt
 have hmem := onN_list p (corn l)
 generalize (corn l).filter (fun c => decide (sd p c = 0)) = cs at *
 match cs, hlt, hmem with
 | [], _, hmem =>
  obtain ⟨c1, hc1, _⟩ := corn_far hface (hzf z hz hz0) p
  obtain ⟨m1, m0⟩ := face_corn hp hc1
  exact absurd ((hmem c1).2 ⟨m1, m0⟩) (by simp)
 | [a], _, hmem =>
  obtain ⟨ha, ha0⟩ := (hmem a).1 (by simp)
  obtain ⟨u, hu, hpu, _⟩ := across hn a a ha0 ha0
  refine flat a u (corn_low a ha).pos hu hpu fun c hc hc0 => ?_
  have := (hmem c).2 ⟨hc, hc0⟩
  simp at this; subst this; rfl
 | [a, b], _, hmem =>
  obtain ⟨ha, ha0⟩ := (hmem a).1 (by simp)
  obtain ⟨hb, hb0⟩ := (hmem b).1 (by simp)
  obtain ⟨u, hu, hpu, hab⟩ := across hn a b ha0 hb0
  refine flat a u (corn_low a ha).pos hu hpu fun c hc hc0 => ?_
  have := (hmem c).2 ⟨hc, hc0⟩
  simp at this
  rcases this with rfl | rfl
  ·rfl
  ·exact hab.symm
 | a :: b :: c :: cs, hlt, _ => exact hlt (by simp)
theorem facet_three {l S : List Pl} (hl : NoRay l) (hg : ∀ p ∈ l, nrm p ≠ v0) {o : Co} (ho : Inner l o) (hS : ∀ p ∈ S, p ∈ l) (hb : ∀ c, InB S c → InB l c) (hi : Irred S) {p : Pl} (hp : p ∈ S) : 3 ≤ onN p (corn l) := by
 obtain ⟨c, hc, hq, hpc⟩ := hi p hp
 have hpo := ho.2 p (hS p hp)
 have hz : ∀ s : Pl, EE s (addP (smul (EE p c) o) (smul (-EE p o) c)) = EE p c * EE s o + -EE p o * EE s c := fun s => by rw [EE_add, EE_smul, EE_smul]
 have hz0 : EE p (addP (smul (EE p c) o) (smul (-EE p o) c)) = 0 := by rw [hz]; grind
 have hzn : 0 < (addP (smul (EE p c) o) (smul (-EE p o) c)).n := by
  have h1 := Int.mul_pos hpc ho.1
  have h2 := Int.mul_pos (show 0 < -EE p o by omega) hc
  show 0 < EE p c * o.n + -EE p o * c.n
  omega
 have hst : ∀ q ∈ S, EE q (addP (smul (EE p c) o) (smul (-EE p o) c)) < 0 ∨ (EE q (addP (smul (EE p c) o) (smul (-EE p o) c)) = 0 ∧ q = p) := by
  intro q hq'
  by_cases e : q = p
  ·subst e; exact .inr ⟨hz0, rfl⟩
  ·left
   rw [hz]
   have h1 := Int.mul_pos hpc (show 0 < -EE q o by have := ho.2 q (hS q hq'); omega)
   have h2 := Int.mul_nonneg (show 0 ≤ -EE p o by omega) (show 0 ≤ -EE q c by have := hq q hq' e; omega)
   grind
 generalize addP (smul (EE p c) o) (smul (-EE p o) c) = z at *
 refine three_on hl (hS p hp) (hg p (hS p hp)) (hb z ⟨hzn, fun q hq => by rcases hst q hq with h | h <;> omega⟩) hz0 fun u hu => ?_
 obtain ⟨k, hk, h⟩ := wiggle hzn (fun q => q = p) hst u fun q _ e => by subst e; omega
 exact ⟨k, hk, hb _ h⟩
/-! Lowest forms. -/
theorem lowL_spec {p : Pl} (h : nrm p ≠ v0) : ∃ g : Int, 0 < g ∧ p.a = (lowL p).a * g ∧ p.b = (lowL p).b * g ∧ p.c = (lowL p).c * g ∧ p.d = (lowL p).d * g ∧ g = (g4 p.a p.b p.c p.d : Int) := by
 obtain ⟨d1, d2, d3, d4⟩ := g4_dvd p.a p.b p.c p.d
 have hg := g4_pos' (d := p.d) (nrm_ne h)
 exact ⟨(g4 p.a p.b p.c p.d : Int), by omega, (Int.tdiv_mul_cancel d1).symm, (Int.tdiv_mul_cancel d2).symm, (Int.tdiv_mul_cancel d3).symm, (Int.tdiv_mul_cancel d4).symm, rfl⟩
theorem EE_low {p : Pl} (h : nrm p ≠ v0) : ∃ g : Int, 0 < g ∧ ∀ c, EE p c = g * EE (lowL p) c := by
 obtain ⟨g, hg, h1, h2, h3, h4, -⟩ := lowL_spec h
 refine ⟨g, hg, fun c => ?_⟩
 unfold EE dt nrm; simp only; rw [h1, h2, h3, h4]; grind
theorem EE_low_sign {p : Pl} (h : nrm p ≠ v0) (c : Co) : (EE (lowL p) c < 0 ↔ EE p c < 0) ∧ (EE (lowL p) c = 0 ↔ EE p c = 0) ∧ (EE (lowL p) c ≤ 0 ↔ EE p c ≤ 0) := by
 obtain ⟨g, hg, hE⟩ := EE_low h
 have e := hE c
 generalize EE (lowL p) c = y at *
 generalize EE p c = x at *
 subst e
 rcases Int.lt_trichotomy y 0 with h1 | h1 | h1
 ·have := Int.mul_pos hg (show 0 < -y by omega)
  have : g * y < 0 := by grind
  omega
 ·subst h1; simp
 ·have := Int.mul_pos hg h1
  omega
theorem onN_low {p : Pl} (h : nrm p ≠ v0) (cs : List Co) : onN (lowL p) cs = onN p cs := by
 unfold onN
 congr 1
 refine List.filter_congr fun c _ => ?_
 have h1 := sd_zero (p := p) (c := c)
 have h2 := sd_zero (p := lowL p) (c := c)
 have h3 := (EE_low_sign h c).2.1
 simp only [h1, h2, h3]
theorem g4_low {p : Pl} (h : nrm p ≠ v0) : g4 (lowL p).a (lowL p).b (lowL p).c (lowL p).d = 1 := by
 obtain ⟨g, hg, h1, h2, h3, h4, h5⟩ := lowL_spec h
 have h6 := g4_mul (lowL p).a (lowL p).b (lowL p).c (lowL p).d g
 rw [← h1, ← h2, ← h3, ← h4] at h6
 have h7 : g.natAbs = g4 p.a p.b p.c p.d := by omega
 rw [h7] at h6
 have hpos : 0 < g4 p.a p.b p.c p.d := by omega
 exact Nat.eq_of_mul_eq_mul_right hpos (by rw [← h6, Nat.one_mul])
theorem lowL_idem {p : Pl} (h : nrm p ≠ v0) : lowL (lowL p) = lowL p := by
 have e := g4_low h
 generalize lowL p = q at *
 unfold lowL
 rw [e]
 cases q
 simp
/-! The points of the normal form. -/
theorem nor_sub {l : List Pl} (hg : ∀ p ∈ l, nrm p ≠ v0) {cs : List Co} {c : Co} (hc : InB l c) : InB (nor l cs) c :=
 ⟨hc.1, fun q hq => by obtain ⟨p, hp, _, rfl⟩ := mem_nor.1 hq; exact (EE_low_sign (hg p hp) c).2.2.2 (hc.2 p hp)⟩
/-- What a cell must be: bounded, with inside, with normals. -/
structure Sol (l : List Pl) : Prop where
 ray : NoRay l
 nrm : ∀ p ∈ l, nrm p ≠ v0
 ins : insid l (corn l) = true
 ne : l ≠ []
theorem Sol.inner {l : List Pl} (h : Sol l) : ∃ o, Inner l o := inner_of h.ne h.ins
theorem nor_body {l : List Pl} (h : Sol l) {c : Co} : InB (nor l (corn l)) c ↔ InB l c := by
 refine ⟨fun hc => ?_, nor_sub h.nrm⟩
 obtain ⟨o, ho⟩ := h.inner
 obtain ⟨S, hS, hb, hi⟩ := irred_of l.length l (Nat.le_refl _)
 refine hb c ⟨hc.1, fun p hp => ?_⟩
 have h3 := facet_three h.ray h.nrm ho hS hb hi hp
 exact (EE_low_sign (h.nrm p (hS p hp)) c).2.2.1 (hc.2 _ (mem_nor.2 ⟨p, hS p hp, h3, rfl⟩))
/-- Planes with the same points as bounded ones are bounded. -/
theorem noRay_body {l m : List Pl} (hl : NoRay l) {o : Co} (ho : InB m o) (h : ∀ c, InB m c → InB l c) : NoRay m := by
 intro v hv
 apply Classical.byContradiction
 intro hno
 obtain ⟨p, hp, hp0⟩ := hl v hv
 have hm : ∀ t : Int, 0 ≤ t → InB m (mv 1 o t v) := fun t ht => ⟨by show 0 < 1 * o.n; have := ho.1; omega, fun q hq => by
  rw [EE_mv]
  have h1 := ho.2 q hq
  have h2 : dt (nrm q) v ≤ 0 := by
   rcases Int.lt_or_le 0 (dt (nrm q) v) with h | h
   ·exact absurd ⟨q, hq, h⟩ hno
   ·exact h
  have h3 := Int.mul_nonneg ht (show 0 ≤ -dt (nrm q) v by omega)
  grind⟩
 have hpo := (h o ho).2 p hp
 have h1 := (h _ (hm (-EE p o + 1) (by omega))).2 p hp
 rw [EE_mv] at h1
 have h2 := Int.mul_nonneg (show 0 ≤ -EE p o + 1 by omega) (show 0 ≤ dt (nrm p) v - 1 by omega)
 grind
/-- The same points: the same corners. -/
theorem corn_sub {l m : List Pl} (hm : NoRay m) (h : ∀ c, InB m c ↔ InB l c) {c : Co} (hc : c ∈ corn l) : c ∈ corn m := by
 obtain ⟨hlow, hin, p, hp, q, hq, r, hr, hd, h1, h2, h3⟩ := mem_corn_iff.1 hc
 obtain ⟨a, ha, hf⟩ := corn_far hm ((h c).2 (corn_inB hc)) ⟨-(p.a + q.a + r.a), -(p.b + q.b + r.b), -(p.c + q.c + r.c), -(p.d + q.d + r.d)⟩
 have hsum : ∀ x, EE ⟨-(p.a + q.a + r.a), -(p.b + q.b + r.b), -(p.c + q.c + r.c), -(p.d + q.d + r.d)⟩ x = -(EE p x + EE q x + EE r x) := fun x => by unfold EE dt nrm; simp only; grind
 unfold FarLe at hf
 rw [hsum, hsum, h1, h2, h3] at hf
 have hain := (h a).1 (corn_inB ha)
 have a1 := hain.2 p hp
 have a2 := hain.2 q hq
 have a3 := hain.2 r hr
 have h4 : -(EE p a + EE q a + EE r a) * c.n ≤ 0 * c.n := by simpa using hf
 have h5 := Int.le_of_mul_le_mul_right h4 hlow.pos
 obtain ⟨x1, x2, x3⟩ := tight_same hd h1 h2 h3 (show EE p a = 0 by omega) (show EE q a = 0 by omega) (show EE r a = 0 by omega)
 rw [low_same hlow (corn_low a ha) x1 x2 x3]
 exact ha
theorem corn_same {l m : List Pl} (hl : NoRay l) (hm : NoRay m) (h : ∀ c, InB m c ↔ InB l c) : corn m = corn l :=
 asc_unique ordP corn_low corn_low (corn_asc m) (corn_asc l) fun c => ⟨corn_sub hl fun x => (h x).symm, corn_sub hm h⟩
theorem nor_asc (l : List Pl) (cs : List Co) : (nor l cs).Pairwise (fun x y => ltL x y = true) := srt_sorted ordL fun _ _ => trivial
theorem lowL_nrm {p : Pl} (h : nrm p ≠ v0) : nrm (lowL p) ≠ v0 := by
 obtain ⟨g, hg, h1, h2, h3, h4, -⟩ := lowL_spec h
 intro e; apply h
 unfold nrm v0 at *
 simp only [Vec.mk.injEq] at *
 obtain ⟨e1, e2, e3⟩ := e
 rw [h1, h2, h3, e1, e2, e3]; simp
/-- THE NORMAL FORM: the same corners, a cell of its own, its own normal form. -/
theorem nor_corn {l : List Pl} (h : Sol l) : corn (nor l (corn l)) = corn l ∧ Sol (nor l (corn l)) ∧ nor (nor l (corn l)) (corn l) = nor l (corn l) := by
 obtain ⟨o, ho⟩ := h.inner
 have hob : InB l o := ⟨ho.1, fun p hp => Int.le_of_lt (ho.2 p hp)⟩
 have hr : NoRay (nor l (corn l)) := noRay_body h.ray (nor_sub h.nrm hob) fun c hc => (nor_body h).1 hc
 have hc : corn (nor l (corn l)) = corn l := corn_same h.ray hr fun c => nor_body h
 have hn : ∀ q ∈ nor l (corn l), nrm q ≠ v0 := fun q hq => by obtain ⟨p, hp, _, rfl⟩ := mem_nor.1 hq; exact lowL_nrm (h.nrm p hp)
 refine ⟨hc, ⟨hr, hn, ?_, fun e => ?_⟩, ?_⟩
 ·rw [hc, insid_iff]
  intro q hq
  obtain ⟨p, hp, _, rfl⟩ := mem_nor.1 hq
  obtain ⟨c, hc1, hc2⟩ := insid_iff.1 h.ins p hp
  exact ⟨c, hc1, (EE_low_sign (h.nrm p hp) c).1.2 hc2⟩
 ·obtain ⟨q, hq, _⟩ := hr ⟨1, 0, 0⟩ (by unfold v0; simp)
  rw [e] at hq; simp at hq
 ·refine asc_unique ordL (fun _ _ => trivial) (fun _ _ => trivial) (nor_asc _ _) (nor_asc _ _) fun q => ?_
  rw [mem_nor]
  constructor
  ·rintro ⟨p, hp, h3, rfl⟩
   obtain ⟨r, hr, h4, rfl⟩ := mem_nor.1 hp
   rw [lowL_idem (h.nrm r hr)]; exact hp
  ·intro hq
   obtain ⟨r, hr, h4, rfl⟩ := mem_nor.1 hq
   exact ⟨_, hq, by rw [onN_low (h.nrm r hr)]; exact h4, (lowL_idem (h.nrm r hr)).symm⟩
theorem readE_zero {l : List Pl} : readE l = 0 ↔ l.length ≤ 16 ∧ chkPs l = 0 ∧ bounM l = true ∧ insid l (corn l) = true ∧ (corn l).all inRoomB = true := by
 unfold readE
 by_cases h1 : 16 < l.length
 ·rw [if_pos h1]; simp; omega
 ·rw [if_neg h1]
  by_cases h2 : chkPs l ≠ 0
  ·rw [if_pos h2]; simp [h2]
  ·rw [if_neg h2]
   simp only [ne_eq, Decidable.not_not] at h2
   cases h3 : bounM l <;> cases h4 : insid l (corn l) <;> cases h5 : (corn l).all inRoomB <;> simp [h2] <;> omega
theorem bounM_ne {l : List Pl} (h : bounM l = true) : l ≠ [] := by
 rintro rfl; simp [bounM, crsI] at h
theorem sol_of {l : List Pl} (h : readE l = 0) : Sol l := by
 obtain ⟨h1, h2, h3, h4, h5⟩ := readE_zero.1 h
 exact ⟨noRay_of h3, fun p hp => (good_of h2 p hp).2, h4, bounM_ne h3⟩
end Go.Proofs.YtgjmfdhgeahdcaaGreat
/- What is left of cells without others, and what is common (plain): the program's and the document's answers. -/
set_option linter.unusedVariables false
set_option linter.unusedSimpArgs false
namespace Go.Proofs.YtgjmfdhgeahdcaaGreat

/-- The normal form of planes. -/
def nf (l : List Pl) : List Pl := nor l (corn l)
/-- Whether planes have inside, as the program says it. -/
def solM (l : List Pl) : Bool := insid l (corn l) && decide (l ≠ [])
def meetsM (l m : List Pl) : Bool := !apaM l m && solM (l ++ m)
/-- What is left outside of the plane number i of another body. -/
def partM (l ds : List Pl) (i : Nat) : List Pl := l ++ ds.take i ++ [opp (ds.getD i p0)]
def cutK (l ds : List Pl) (n : Nat) : List (List Pl) := (List.range n).flatMap fun i => if solM (partM l ds i) = true then [nf (partM l ds i)] else []
def cutM (l ds : List Pl) : List (List Pl) := cutK l ds ds.length
theorem cutK_succ (l ds : List Pl) (n : Nat) : cutK l ds (n + 1) = cutK l ds n ++ (if solM (partM l ds n) = true then [nf (partM l ds n)] else []) := by
 unfold cutK; rw [List.range_succ, List.flatMap_append]; simp
def step1 (d p : List Pl) : List (List Pl) := if meetsM p d = true then cutM p (nf d) else [p]
def stepM (d : List Pl) (ps : List (List Pl)) : List (List Pl) := ps.flatMap (step1 d)
theorem stepM_succ {d : List Pl} {ps : List (List Pl)} {k : Nat} (hk : k < ps.length) : stepM d (ps.take (k + 1)) = stepM d (ps.take k) ++ step1 d ps[k] := by
 unfold stepM; rw [List.take_succ_eq_append_getElem hk, List.flatMap_append]; simp
def tooMany (n : Nat) (r : List (List Pl)) : Bool := decide (100 < n + r.length) || r.any fun p => decide (16 < p.length)
def piecesM (n : Nat) (ps : List (List Pl)) : List (List Pl) → Option (List (List Pl))
 | [] => some ps
 | d :: y => if tooMany n (stepM d ps) = true then none else piecesM n (stepM d ps) y
def leftM (y : List (List Pl)) (out : List (List Pl)) : List (List Pl) → Option (List (List Pl))
 | [] => some out
 | c :: x => match piecesM out.length [nf c] y with
  | none => none
  | some r => leftM y (out ++ r) x
/-! The document. -/
theorem nf_sol {l : List Pl} (h : Sol l) : Sol (nf l) := (nor_corn h).2.1
/-! The common cells. -/
/-! The first overlap. -/
end Go.Proofs.YtgjmfdhgeahdcaaGreat
/- What is left and what is common, as sets of points (plain): together they are the whole. -/
set_option linter.unusedVariables false
set_option linter.unusedSimpArgs false
namespace Go.Proofs.YtgjmfdhgeahdcaaGreat

theorem nf_body {l : List Pl} (h : Sol l) {c : Co} : InB (nf l) c ↔ InB l c := nor_body h
/-! The parts outside of a body. -/
/-! What is common. -/
end Go.Proofs.YtgjmfdhgeahdcaaGreat
