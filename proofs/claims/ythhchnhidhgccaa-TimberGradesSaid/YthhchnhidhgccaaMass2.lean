/- What the program's Mass and the reference's Mass return. -/
import Derived.Test.YthhchnhidhgccaaMass
set_option linter.unusedVariables false
set_option linter.unusedSimpArgs false
namespace Go.Proofs.Ythhchnhidhgccaa
open Go Go.RowKit

theorem spGo_ok {l : List Species} : ∀ {pre : List ByteArray}, spGo pre l = 0 → ∀ s ∈ l, speciesErr s = 0 := by
  induction l with
  | nil => simp
  | cons s r ih =>
    intro pre h
    unfold spGo at h
    split at h
    · exact absurd h (by assumption)
    · rename_i hs
      split at h
      · cases h
      · intro d hd
        rcases List.mem_cons.1 hd with rfl | hd
        · exact Classical.not_not.1 hs
        · exact ih h d hd
structure SpeciesOk (s : Species) : Prop where
  name : nameB s.name = true
  along : 0 ≤ s.along ∧ s.along ≤ 2000
  across : 0 ≤ s.across ∧ s.across ≤ 2000
  radial : 0 ≤ s.radial ∧ s.radial ≤ 2000
  density : 1 ≤ s.density ∧ s.density ≤ 2000
theorem speciesErr_ok {s : Species} (h : speciesErr s = 0) : SpeciesOk s := by
  unfold speciesErr at h
  split at h
  · cases h
  · split at h
    · cases h
    · rename_i h1 h2
      exact ⟨by cases hq : nameB s.name <;> simp_all, withinB_true (by cases hq : withinB s.along 0 2000 <;> simp_all), withinB_true (by cases hq : withinB s.across 0 2000 <;> simp_all), withinB_true (by cases hq : withinB s.radial 0 2000 <;> simp_all), withinB_true (by cases hq : withinB s.density 1 2000 <;> simp_all)⟩
theorem checkSpecies_ok {l : List Species} (h : checkSpecies l = 0) : l.length ≤ 40 ∧ ∀ s ∈ l, SpeciesOk s := by
  unfold checkSpecies at h
  split at h
  · cases h
  · exact ⟨by omega, fun s hs => speciesErr_ok (spGo_ok h s hs)⟩
theorem idxOf_ok {α : Type} {p : α → Bool} {l : List α} (h : 0 ≤ idxOf p l) : ∃ k, ∃ hk : k < l.length, idxOf p l = k ∧ p l[k] = true := by
  unfold idxOf at *
  split at h
  · rename_i i hi
    obtain ⟨hk, hp, _⟩ := List.findIdx?_eq_some_iff_getElem.1 hi
    exact ⟨i, hk, by rfl, hp⟩
  · omega
theorem checkBoardE_ok {l : List Species} {b : Board} (h : checkBoardE l b = 0) : checkSpecies l = 0 ∧ boardErr b = 0 ∧ 0 ≤ idxOf (nameIs b.species) l := by
  unfold checkBoardE listedE at h
  split at h
  · exact absurd h (by assumption)
  · rename_i h1
    split at h
    · exact absurd h (by assumption)
    · rename_i h2
      split at h
      · cases h
      · exact ⟨Classical.not_not.1 h1, Classical.not_not.1 h2, by omega⟩
def massOf (s : Species) (b : Board) : Int := b.length * b.width * b.thick * s.density / 1000000000000 * (1000 + b.moisture) / 1000
theorem mul_bd {x y a c : Int} (h0 : 0 ≤ x) (h1 : x ≤ a) (h2 : 0 ≤ y) (h3 : y ≤ c) : 0 ≤ x * y ∧ x * y ≤ a * c := by
  refine ⟨Int.mul_nonneg h0 h2, Int.mul_le_mul h1 h3 h2 (by omega)⟩
theorem mass_bds {b : Board} {s : Species} (hb : BoardOk b) (hs : SpeciesOk s) : (0 ≤ b.length * b.width ∧ b.length * b.width ≤ 60000000000) ∧ (0 ≤ b.length * b.width * b.thick ∧ b.length * b.width * b.thick ≤ 1200000000000000) ∧
    (0 ≤ b.length * b.width * b.thick * s.density ∧ b.length * b.width * b.thick * s.density ≤ 2400000000000000000) := by
  obtain ⟨l1, l2⟩ := hb.length
  obtain ⟨w1, w2⟩ := hb.width
  obtain ⟨t1, t2⟩ := hb.thick
  obtain ⟨d1, d2⟩ := hs.density
  have h1 := mul_bd (show 0 ≤ b.length by omega) l2 (show 0 ≤ b.width by omega) w2
  have h2 := mul_bd h1.1 h1.2 (show 0 ≤ b.thick by omega) t2
  have h3 := mul_bd h2.1 h2.2 (show 0 ≤ s.density by omega) d2
  exact ⟨h1, h2, h3⟩
theorem mass_bd2 {V m : Int} (h : 0 ≤ V ∧ V ≤ 2400000000000000000) (hm : 0 ≤ m ∧ m ≤ 400) : V.tdiv 1000000000000 = V / 1000000000000 ∧ (0 ≤ V / 1000000000000 ∧ V / 1000000000000 ≤ 2400000) ∧ (0 ≤ V / 1000000000000 * (1000 + m) ∧ V / 1000000000000 * (1000 + m) ≤ 3360000000) ∧
    (V / 1000000000000 * (1000 + m)).tdiv 1000 = V / 1000000000000 * (1000 + m) / 1000 := by
  have hq : 0 ≤ V / 1000000000000 ∧ V / 1000000000000 ≤ 2400000 := by omega
  have h1 := mul_bd hq.1 hq.2 (show 0 ≤ 1000 + m by omega) (show 1000 + m ≤ 1400 by omega)
  exact ⟨Int.tdiv_eq_ediv_of_nonneg h.1, hq, h1, Int.tdiv_eq_ediv_of_nonneg h1.1⟩

set_option maxHeartbeats 1000000 in
theorem refMass_any (s : Species) (b : Board) (a : Option Addr) (c : Nat) (w : World) (hb : BoardOk b) (hs : SpeciesOk s) :
    Calls Try.prog 23 #[.agg #[.string s.name, .int .i64 s.along, .int .i64 s.across, .int .i64 s.radial, .int .i64 s.density, .int .i64 s.stiffness, .int .i64 s.strength], .agg #[.string b.name, .string b.species, .int .i64 b.length, .int .i64 b.width, .int .i64 b.thick, .int .i64 b.cut, .int .i64 b.moisture, .slice a b.defects.length c]] w fun e w' => e = .returned (.int .i64 (massOf s b)) ∧ Below w.heap.size w w' := by
  obtain ⟨⟨p1, p2⟩, ⟨p3, p4⟩, p5, p6⟩ := mass_bds hb hs
  obtain ⟨e1, ⟨q1, q2⟩, ⟨q3, q4⟩, e2⟩ := mass_bd2 ⟨p5, p6⟩ hb.moisture
  obtain ⟨m1, m2⟩ := hb.moisture
  unfold massOf
  generalize hV1 : b.length * b.width = V1 at *
  generalize hV2 : V1 * b.thick = V2 at *
  generalize hV3 : V2 * s.density = V3 at *
  generalize hQ : V3 / 1000000000000 = Qv at *
  generalize hR : Qv * (1000 + b.moisture) = Rv at *
  go_enter Try.func23, Try.ntmps23
  go_wp2_with fail
  go_ret
  exact ⟨rfl, ((Below.refl _ _).alloc (Nat.le_refl _) _).alloc (by simp) _⟩

theorem find_k (a : Option Addr) (l : List Species) (c : Nat) (nm : ByteArray) (w : World) (k : Nat) (hv : Speciess.V w a l) (hl : l.length ≤ 9223372036854775807) (hi : idxOf (nameIs nm) l = k) :
    Calls Try.prog 74 #[.slice a l.length c, .string nm] w fun e w' => e = .returned (.int .i64 k) ∧ Below w.heap.size w w' := by
  rw [← hi]; exact find_any a l c nm w hv hl

def massV (l : List Species) (b : Board) : Int := if checkBoardE l b ≠ 0 then 0 else match l[(idxOf (nameIs b.species) l).toNat]? with | some s => massOf s b | none => 0
theorem massV_ok {l : List Species} {b : Board} {k : Nat} (h : checkBoardE l b = 0) (hk : k < l.length) (hi : idxOf (nameIs b.species) l = k) : massV l b = massOf l[k] b := by
  simp [massV, h, hi, hk]
theorem massV_err {l : List Species} {b : Board} (h : checkBoardE l b ≠ 0) : massV l b = 0 := by simp [massV, h]

set_option maxHeartbeats 1000000 in
theorem timberMass_any (sa : Option Addr) (l : List Species) (sc : Nat) (b : Board) (a : Option Addr) (c : Nat) (w : World) (hs : Speciess.V w sa l) (hsl : l.length ≤ 9223372036854775807)
    (hv : Rects.V w a b.defects) (hl : b.defects.length ≤ 9223372036854775807) (hw : b.wf) :
    Calls Try.prog 21 #[.slice sa l.length sc, .agg #[.string b.name, .string b.species, .int .i64 b.length, .int .i64 b.width, .int .i64 b.thick, .int .i64 b.cut, .int .i64 b.moisture, .slice a b.defects.length c]] w fun e w' => e = .returned (.tuple #[.int .i64 (massV l b), .int .i64 (checkBoardE l b)]) ∧ Below w.heap.size w w' := by
  by_cases h0 : checkBoardE l b = 0
  · have h0' : (checkBoardE l b != 0) = false := by simp [h0]
    obtain ⟨hcs, hbe, hix⟩ := checkBoardE_ok h0
    obtain ⟨k, hk, hi, -⟩ := idxOf_ok hix
    have hks : (k : Int) < (l.length : Int) := by omega
    have hS := (checkSpecies_ok hcs).2 l[k] (List.getElem_mem _)
    have hB := boardErr_ok hbe
    obtain ⟨⟨p1, p2⟩, ⟨p3, p4⟩, p5, p6⟩ := mass_bds hB hS
    obtain ⟨f1, ⟨q1, q2⟩, ⟨q3, q4⟩, f2⟩ := mass_bd2 ⟨p5, p6⟩ hB.moisture
    obtain ⟨m1, m2⟩ := hB.moisture
    have HE := Lib.hid (show checkBoardE l b = 0 ∧ massV l b = massOf l[k] b from ⟨h0, massV_ok h0 hk hi⟩)
    have HI := Lib.hid hi
    clear h0 hcs hbe hix hi hS hB
    unfold massOf at HE
    generalize hs0 : l[k] = s at *
    have HS0 := Lib.hid hs0
    clear hs0
    generalize hV1 : b.length * b.width = V1 at *
    generalize hV2 : V1 * b.thick = V2 at *
    generalize hV3 : V2 * s.density = V3 at *
    generalize hQ : V3 / 1000000000000 = Qv at *
    generalize hR : Qv * (1000 + b.moisture) = Rv at *
    go_enter Try.func21, Try.ntmps21
    go_wp2_with (go_at_call 43; refine (checkBoardP_any _ l _ b _ _ _ (hs.keep ((Below.refl _ _).alloc (Nat.le_refl _) _)) hsl (hv.keep ((Below.refl _ _).alloc (Nat.le_refl _) _)) hl hw).mono ?_; rintro e w1 ⟨rfl, hb⟩; obtain ⟨hc, hf⟩ := bcell hb; have hz : w.heap.size < w1.heap.size := (by have := hb.size; simp at this; omega); have hb1 := ((Below.refl w.heap.size w).alloc (Nat.le_refl _) _).trans (hb.mono (by simp)))
    have b1 : w1.cell? ⟨w.heap.size, 1, none⟩ = some (.string b.species) := cell_keep hb (by simp [go_sem])
    have b2 : w1.cell? ⟨w.heap.size, 2, none⟩ = some (.int .i64 b.length) := cell_keep hb (by simp [go_sem])
    have b3 : w1.cell? ⟨w.heap.size, 3, none⟩ = some (.int .i64 b.width) := cell_keep hb (by simp [go_sem])
    have b4 : w1.cell? ⟨w.heap.size, 4, none⟩ = some (.int .i64 b.thick) := cell_keep hb (by simp [go_sem])
    have b6 : w1.cell? ⟨w.heap.size, 6, none⟩ = some (.int .i64 b.moisture) := cell_keep hb (by simp [go_sem])
    have hs1 := hs.keep hb1
    obtain ⟨bk, off, rfl, hat⟩ := hs1.at_ hk
    rw [HS0.out] at hat
    obtain ⟨c0, c1, c2, c3, c4, -⟩ := hat
    have hbk := block_lt_of_cell c0
    simp only at hbk
    clear hc hf hb
    refine wp_region_grew (by kernel_rfl) (by kernel_rfl) ?_
    repeat (first
      | go_big_quiet_step ((go_at_call 74; exact grew_of (find_k _ l _ _ _ _ (hs1.keep (grewB (Below.refl _ _) (Nat.le_refl _) _)) hsl HI.out)))
      | quiet_step ((go_at_call 74; exact grew_of (find_k _ l _ _ _ _ (hs1.keep (grewB (Below.refl _ _) (Nat.le_refl _) _)) hsl HI.out))))
    refine wpQuiet_nil ?_
    rintro _ ⟨g, rfl⟩
    go_wp2_with fail
    exact bodyPost_ret (v := .tuple #[.int .i64 (Rv / 1000), .int .i64 0]) (by simp [results, Try.results21, go_sem]) rfl ⟨by rw [HE.out.1, HE.out.2], grewB hb1 (by omega) _⟩
  · have h0' : (checkBoardE l b != 0) = true := by simp [h0]
    have HE := Lib.hid (massV_err h0)
    clear h0
    go_enter Try.func21, Try.ntmps21
    go_wp2_with (go_at_call 43; refine (checkBoardP_any _ l _ b _ _ _ (hs.keep ((Below.refl _ _).alloc (Nat.le_refl _) _)) hsl (hv.keep ((Below.refl _ _).alloc (Nat.le_refl _) _)) hl hw).mono ?_; rintro e w1 ⟨rfl, hb⟩; obtain ⟨hc, hf⟩ := bcell hb; have hz : w.heap.size < w1.heap.size := (by have := hb.size; simp at this; omega); have hb1 := ((Below.refl w.heap.size w).alloc (Nat.le_refl _) _).trans (hb.mono (by simp)))
    exact bodyPost_ret (v := .tuple #[.int .i64 0, .int .i64 (checkBoardE l b)]) (by simp [results, Try.results21, go_sem]) rfl ⟨by rw [HE.out], hb1⟩
end Go.Proofs.Ythhchnhidhgccaa
