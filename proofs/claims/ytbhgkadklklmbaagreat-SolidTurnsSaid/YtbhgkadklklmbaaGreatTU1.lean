/- What moving does to planes and to their points (plain). -/
import Derived.Test.YtbhgkadklklmbaaGreatQD
set_option linter.unusedVariables false
set_option linter.unusedSimpArgs false
namespace Go.Proofs.YtbhgkadklklmbaaGreat

/-- A plane moved, a point moved. -/
def mvP (b : Vec) (p : Pl) : Pl := ⟨p.a, p.b, p.c, p.d + dt (nrm p) b⟩
def mvC (b : Vec) (c : Co) : Co := ⟨c.x + b.x * c.n, c.y + b.y * c.n, c.z + b.z * c.n, c.n⟩
theorem det_mv (b : Vec) (p q r : Pl) : det (mvP b p) (mvP b q) (mvP b r) = det p q r := rfl
theorem mv_key (a1 b1 c1 d1 a2 b2 c2 d2 a3 b3 c3 d3 u v w : Int) :
    mtv (mvP ⟨u, v, w⟩ ⟨a1, b1, c1, d1⟩) (mvP ⟨u, v, w⟩ ⟨a2, b2, c2, d2⟩) (mvP ⟨u, v, w⟩ ⟨a3, b3, c3, d3⟩) =
    ⟨(mtv ⟨a1, b1, c1, d1⟩ ⟨a2, b2, c2, d2⟩ ⟨a3, b3, c3, d3⟩).x + det ⟨a1, b1, c1, d1⟩ ⟨a2, b2, c2, d2⟩ ⟨a3, b3, c3, d3⟩ * u, (mtv ⟨a1, b1, c1, d1⟩ ⟨a2, b2, c2, d2⟩ ⟨a3, b3, c3, d3⟩).y + det ⟨a1, b1, c1, d1⟩ ⟨a2, b2, c2, d2⟩ ⟨a3, b3, c3, d3⟩ * v, (mtv ⟨a1, b1, c1, d1⟩ ⟨a2, b2, c2, d2⟩ ⟨a3, b3, c3, d3⟩).z + det ⟨a1, b1, c1, d1⟩ ⟨a2, b2, c2, d2⟩ ⟨a3, b3, c3, d3⟩ * w⟩ := by
 unfold mtv det mvP dt crs nrm
 simp only [Vec.mk.injEq]
 refine ⟨?_, ?_, ?_⟩ <;> grind
theorem mtv_mv (b : Vec) (p q r : Pl) : mtv (mvP b p) (mvP b q) (mvP b r) = ⟨(mtv p q r).x + det p q r * b.x, (mtv p q r).y + det p q r * b.y, (mtv p q r).z + det p q r * b.z⟩ := by
 obtain ⟨a1, b1, c1, d1⟩ := p; obtain ⟨a2, b2, c2, d2⟩ := q; obtain ⟨a3, b3, c3, d3⟩ := r; obtain ⟨u, v, w⟩ := b
 exact mv_key ..
theorem dvd_g4 {k : Nat} {x y z n : Int} (ha : (k : Int) ∣ x) (hb : (k : Int) ∣ y) (hc : (k : Int) ∣ z) (hd : (k : Int) ∣ n) : k ∣ g4 x y z n := by
 rw [g4_eq]
 exact Nat.dvd_gcd (Nat.dvd_gcd (Nat.dvd_gcd (Int.ofNat_dvd_left.1 ha) (Int.ofNat_dvd_left.1 hb)) (Int.ofNat_dvd_left.1 hc)) (Int.ofNat_dvd_left.1 hd)
theorem mvC_low {b : Vec} {c : Co} (h : Low c) : Low (mvC b c) := by
 refine ⟨h.pos, ?_⟩
 obtain ⟨d1, d2, d3, d4⟩ := g4_dvd (mvC b c).x (mvC b c).y (mvC b c).z (mvC b c).n
 refine Nat.eq_one_of_dvd_one ?_
 rw [← h.one]
 have hm : ∀ u : Int, ((g4 (mvC b c).x (mvC b c).y (mvC b c).z (mvC b c).n : Nat) : Int) ∣ u * c.n := fun u => Int.dvd_trans d4 ⟨u, by rw [Int.mul_comm]; rfl⟩
 exact dvd_g4 ((Int.dvd_add_left (hm b.x)).1 d1) ((Int.dvd_add_left (hm b.y)).1 d2) ((Int.dvd_add_left (hm b.z)).1 d3) d4
theorem mv_cancel {m mn n nn u g k v D : Int} (g0 : g ≠ 0) (k0 : k ≠ 0) (gx : v = n * g) (gn : D = nn * g) (kx : v + D * u = m * k) (kn : D = mn * k) : m * nn = (n + u * nn) * mn := by
 refine Int.eq_of_mul_eq_mul_left (Int.mul_ne_zero g0 k0) ?_
 calc g * k * (m * nn) = (m * k) * (nn * g) := by ac_rfl
  _ = (v + D * u) * D := by rw [← kx, ← gn]
  _ = (n * g + nn * g * u) * (mn * k) := by rw [← gx, ← gn, ← kn]
  _ = g * k * ((n + u * nn) * mn) := by grind
theorem mt_mv (b : Vec) {p q r : Pl} (h : det p q r ≠ 0) : mt (mvP b p) (mvP b q) (mvP b r) = mvC b (mt p q r) := by
 obtain ⟨g, g0, gx, gy, gz, gn⟩ := mt_spec h
 obtain ⟨k, k0, kx, ky, kz, kn⟩ := mt_spec (p := mvP b p) (q := mvP b q) (r := mvP b r) (by rw [det_mv]; exact h)
 rw [mtv_mv] at kx ky kz
 rw [det_mv] at kn
 exact low_same (mt_low (by rw [det_mv]; exact h)) (mvC_low (mt_low h)) (mv_cancel g0 k0 gx gn kx kn) (mv_cancel g0 k0 gy gn ky kn) (mv_cancel g0 k0 gz gn kz kn)
theorem sd_mv (b : Vec) (p : Pl) (c : Co) : sd (mvP b p) (mvC b c) = sd p c := by
 have key : dt (nrm (mvP b p)) (vec (mvC b c)) - (mvP b p).d * (mvC b c).n = dt (nrm p) (vec c) - p.d * c.n := by
  obtain ⟨a1, b1, c1, d1⟩ := p; obtain ⟨x, y, z, n⟩ := c; obtain ⟨u, v, w⟩ := b
  unfold dt nrm mvP mvC vec dt nrm
  simp only
  grind
 have h : ∀ {a b c d : Int}, a - b = c - d → cmpI a b = cmpI c d := fun {a b c d} h => by
  unfold cmpI
  repeat' split
  all_goals omega
 exact h key
theorem alw_mv (b : Vec) (l : List Pl) (c : Co) : alw (l.map (mvP b)) (mvC b c) = alw l c := by
 unfold alw
 rw [List.all_map]
 congr 1
 funext p
 simp only [Function.comp, sd_mv]
theorem mem_raw_mv {b : Vec} {l : List Pl} {c : Co} : c ∈ raw (l.map (mvP b)) ↔ ∃ d ∈ raw l, c = mvC b d := by
 rw [mem_raw]
 constructor
 ·rintro ⟨i, k, m, hi, hk, hm, h1, h2, rfl⟩
  simp only [List.getElem_map] at *
  rw [List.length_map] at hi
  rw [mt_mv b (by simpa [det_mv] using h1), alw_mv] at h2
  exact ⟨_, mem_raw.2 ⟨i, k, m, hi, hk, hm, h1, h2, rfl⟩, mt_mv b h1⟩
 ·rintro ⟨d, hd, rfl⟩
  obtain ⟨i, k, m, hi, hk, hm, h1, h2, rfl⟩ := mem_raw.1 hd
  refine ⟨i, k, m, by simpa using hi, hk, hm, ?_, ?_, ?_⟩ <;> simp only [List.getElem_map]
  ·exact h1
  ·rw [mt_mv b h1, alw_mv]; exact h2
  ·rw [mt_mv b h1]
/-- Whether all moved corners lie in the room. -/
theorem room_mv (b : Vec) (l : List Pl) : (refP (l.map (mvP b))).all inRoomB = (corn l).all (fun c => inRoomB (mvC b c)) := by
 rw [all_refP, Bool.eq_iff_iff, List.all_eq_true, List.all_eq_true]
 constructor
 ·exact fun h c hc => h _ (mem_corn.2 (mem_raw_mv.2 ⟨c, mem_corn.1 hc, rfl⟩))
 ·intro h c hc
  obtain ⟨d, hd, rfl⟩ := mem_raw_mv.1 (mem_corn.1 hc)
  exact h d (mem_corn.2 hd)
/-- Whether a moved plane's number is in range. -/
def bdP (b : Vec) (p : Pl) : Bool := withinB (mvP b p).d (-10000000) 10000000
/-- Whether a cell can be moved. -/
def mvOk (b : Vec) (l : List Pl) : Bool := (corn l).all (fun c => inRoomB (mvC b c)) && l.all (bdP b)
def outB (z : Int) : Bool := !withinB z (-600000) 600000
def farB (b : Vec) : Bool := [b.x, b.y, b.z].any outB
def mvE (b : Vec) (X : List Cell) : Int := if farB b || !(X.all fun c => mvOk b c.planes) then 2 else 0
def mvX (b : Vec) (X : List Cell) : List Cell := X.map fun c => ⟨c.planes.map (mvP b)⟩
def mvV (b : Vec) (X : List Cell) : List Cell := if mvE b X = 0 then mvX b X else []
end Go.Proofs.YtbhgkadklklmbaaGreat
/- Turns: signed permutations, their numbers (plain). -/
set_option linter.unusedVariables false
set_option linter.unusedSimpArgs false
namespace Go.Proofs.YtbhgkadklklmbaaGreat

structure Trn where
 p0 : Nat
 p1 : Nat
 p2 : Nat
 s0 : Int
 s1 : Int
 s2 : Int
deriving DecidableEq
/-- The image of a vector. -/
def ofT (t : Trn) (v : Vec) : Vec := ⟨t.s0 * v.at_ t.p0, t.s1 * v.at_ t.p1, t.s2 * v.at_ t.p2⟩
structure Trn.wf (t : Trn) : Prop where
 a0 : t.p0 < 3
 a1 : t.p1 < 3
 a2 : t.p2 < 3
 b0 : t.s0 = 1 ∨ t.s0 = -1
 b1 : t.s1 = 1 ∨ t.s1 = -1
 b2 : t.s2 = 1 ∨ t.s2 = -1
def sgns (s : Nat) : Int × Int × Int := (1 - (s : Int) / 4 * 2, 1 - (s : Int) / 2 % 2 * 2, 1 - (s : Int) % 2 * 2)
def frm (p : Nat) : Nat × Nat × Nat := (p / 3, p % 3, 3 - p / 3 - p % 3)
def mkT (p s : Nat) : Trn := ⟨(frm p).1, (frm p).2.1, (frm p).2.2, (sgns s).1, (sgns s).2.1, (sgns s).2.2⟩
/-- The turns in the order in which they are found. -/
def trnP (p : Nat) : List Trn := if (frm p).1 = (frm p).2.1 then [] else (List.range 8).map (mkT p)
def trnA : List Trn := (List.range 9).flatMap trnP
def mirB (t : Trn) : Bool := decide (crs (ofT t ⟨1, 0, 0⟩) (ofT t ⟨0, 1, 0⟩) ≠ ofT t ⟨0, 0, 1⟩)
/-- The turns by their numbers. -/
def trnL : List Trn := trnA.filter (fun t => !mirB t) ++ trnA.filter mirB
theorem trnL_len : trnL.length = 48 := by decide +kernel
instance (t : Trn) : Decidable t.wf := decidable_of_iff (t.p0 < 3 ∧ t.p1 < 3 ∧ t.p2 < 3 ∧ (t.s0 = 1 ∨ t.s0 = -1) ∧ (t.s1 = 1 ∨ t.s1 = -1) ∧ (t.s2 = 1 ∨ t.s2 = -1)) ⟨fun ⟨a, b, c, d, e, f⟩ => ⟨a, b, c, d, e, f⟩, fun ⟨a, b, c, d, e, f⟩ => ⟨a, b, c, d, e, f⟩⟩
theorem trnA_wf : ∀ t ∈ trnA, t.wf := by decide +kernel
theorem trnL_wf : ∀ t ∈ trnL, t.wf := by
 intro t ht
 unfold trnL at ht
 rcases List.mem_append.1 ht with h | h <;> exact trnA_wf t (List.mem_filter.1 h).1
def t0 : Trn := ⟨0, 1, 2, 1, 1, 1⟩
/-- The turn of a number. -/
def trnN (n : Int) : Trn := trnL.getD n.toNat t0
end Go.Proofs.YtbhgkadklklmbaaGreat
/- Turns are a group (plain). -/
set_option linter.unusedVariables false
set_option linter.unusedSimpArgs false
namespace Go.Proofs.YtbhgkadklklmbaaGreat

theorem trnN_mem {a : Int} (ha : 0 ≤ a ∧ a ≤ 47) : trnN a ∈ trnL := by
 unfold trnN
 have hl : a.toNat < trnL.length := by rw [trnL_len]; omega
 rw [show trnL.getD a.toNat t0 = trnL[a.toNat] by simp [List.getD, hl]]
 exact List.getElem_mem hl
theorem trnN_wf {a : Int} (ha : 0 ≤ a ∧ a ≤ 47) : (trnN a).wf := trnL_wf _ (trnN_mem ha)
theorem ofT_in {t : Trn} (h : t.wf) {B : Int} {v : Vec} (hv : v.in_ B) : (ofT t v).in_ B := by
 obtain ⟨v1, v2, v3⟩ := hv
 have ha : ∀ i, -B ≤ v.at_ i ∧ v.at_ i ≤ B := fun i => by unfold Vec.at_; split; exact v1; exact v2; exact v3
 have hm : ∀ s i, s = 1 ∨ s = -1 → -B ≤ s * v.at_ i ∧ s * v.at_ i ≤ B := fun s i hs => by
  have := ha i
  rcases hs with rfl | rfl
  ·rw [Int.one_mul]; exact this
  ·rw [Int.neg_mul, Int.one_mul]; omega
 exact ⟨hm _ _ h.b0, hm _ _ h.b1, hm _ _ h.b2⟩
theorem farB_in {v : Vec} : farB v = false ↔ v.in_ 600000 := by
 unfold farB outB Vec.in_ withinB
 simp
 try omega
/-- A plane turned. -/
def trP (t : Trn) (p : Pl) : Pl := ⟨(ofT t (nrm p)).x, (ofT t (nrm p)).y, (ofT t (nrm p)).z, p.d⟩
def trX (t : Trn) (X : List Cell) : List Cell := X.map fun c => ⟨c.planes.map (trP t)⟩
end Go.Proofs.YtbhgkadklklmbaaGreat
