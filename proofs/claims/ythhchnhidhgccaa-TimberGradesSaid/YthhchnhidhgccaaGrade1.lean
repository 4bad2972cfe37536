/- Grades: the check, the first grade that fits (closure, IndexFunc), the reference's GradeOf. -/
import Derived.Test.YthhchnhidhgccaaDef4
set_option linter.unusedVariables false
set_option linter.unusedSimpArgs false
namespace Go.Proofs.Ythhchnhidhgccaa
open Go Go.RowKit

def gradeHit (n : Int) (T l wd lon : Int) (g : Grade) : Bool := decide (n ≤ g.most) && decide (T * 1000 ≤ g.share * l * wd) && decide (g.clear ≤ lon)
def gradeE (g : Grade) : Int := if nameB g.name = false then 4 else if withinB g.most 0 60 = false ∨ withinB g.share 0 1000 = false ∨ withinB g.clear 0 600000 = false then 2 else 0
def gradesGo : List Grade → Int
  | [] => 0
  | g :: r => if gradeE g ≠ 0 then gradeE g else gradesGo r
def gradesE (l : List Grade) : Int := if 20 < l.length then 8 else gradesGo l
theorem gradesGo_err {l : List Grade} {k : Nat} {e x : Int} (hk : k < l.length) (h : e = gradesGo (l.drop k)) (h1 : gradeE l[k] = x) (hx : x ≠ 0) : e = x := by
  rw [h, List.drop_eq_getElem_cons hk, gradesGo, h1, if_pos hx]
theorem gradesGo_next {l : List Grade} {k : Nat} {e : Int} (hk : k < l.length) (h : e = gradesGo (l.drop k)) (h1 : gradeE l[k] = 0) : e = gradesGo (l.drop (k + 1)) := by
  rw [h, List.drop_eq_getElem_cons hk, gradesGo, h1, if_neg (by simp)]
theorem gradesGo_end {l : List Grade} {k : Nat} {e : Int} (hk : l.length ≤ k) (h : e = gradesGo (l.drop k)) : e = 0 := by
  rw [h, List.drop_of_length_le hk]; rfl
theorem gradesGo_ok {l : List Grade} (h : gradesGo l = 0) : ∀ g ∈ l, (0 ≤ g.most ∧ g.most ≤ 60) ∧ (0 ≤ g.share ∧ g.share ≤ 1000) ∧ (0 ≤ g.clear ∧ g.clear ≤ 600000) := by
  induction l with
  | nil => intro g hg; cases hg
  | cons a l ih =>
    unfold gradesGo at h
    split at h
    · rename_i h1; exact absurd h h1
    · rename_i h1
      intro g hg
      rcases List.mem_cons.1 hg with rfl | hg
      · have h2 : gradeE g = 0 := Classical.not_not.1 h1
        unfold gradeE at h2
        split at h2
        · cases h2
        · split at h2
          · cases h2
          · rename_i h3
            simp only [not_or, Bool.not_eq_false] at h3
            exact ⟨withinB_true h3.1, withinB_true h3.2.1, withinB_true h3.2.2⟩
      · exact ih h g hg
theorem share_bd {s l wd : Int} (h1 : 0 ≤ s) (h2 : s ≤ 1000) (h3 : 1 ≤ l) (h4 : l ≤ 600000) (h5 : 1 ≤ wd) (h6 : wd ≤ 100000) : (0 ≤ s * l ∧ s * l ≤ 600000000) ∧ 0 ≤ s * l * wd ∧ s * l * wd ≤ 60000000000000 := by
  have a1 : s * l ≤ 1000 * 600000 := Int.mul_le_mul h2 h4 (by omega) (by omega)
  have a0 : 0 ≤ s * l := Int.mul_nonneg h1 (by omega)
  have b1 : s * l * wd ≤ 600000000 * 100000 := Int.mul_le_mul (by omega) h6 (by omega) (by omega)
  have b0 : 0 ≤ s * l * wd := Int.mul_nonneg a0 (by omega)
  omega

set_option maxHeartbeats 2000000 in
theorem gradeOf1_any (g : Grade) (b : Board) (a : Option Addr) (c : Nat) (B1 B2 B3 : Nat) (T lon : Int) (w : World) (hT : 0 ≤ T ∧ T ≤ 100000000000000)
    (hg : (0 ≤ g.share ∧ g.share ≤ 1000)) (hl : 1 ≤ b.length ∧ b.length ≤ 600000) (hw : 1 ≤ b.width ∧ b.width ≤ 100000)
    (e2 : w.cell? ⟨B1, 2, none⟩ = some (.int .i64 b.length)) (e3 : w.cell? ⟨B1, 3, none⟩ = some (.int .i64 b.width)) (e7 : w.cell? ⟨B1, 7, none⟩ = some (.slice a b.defects.length c))
    (eT : w.cell? ⟨B2, 0, none⟩ = some (.int .i64 T)) (eL : w.cell? ⟨B3, 0, none⟩ = some (.int .i64 lon)) (z1 : B1 < w.heap.size) (z2 : B2 < w.heap.size) (z3 : B3 < w.heap.size) :
    Calls Try.prog 107 #[.agg #[.string g.name, .int .i64 g.most, .int .i64 g.share, .int .i64 g.clear], .pointer (some ⟨B1, 0, none⟩), .pointer (some ⟨B2, 0, none⟩), .pointer (some ⟨B3, 0, none⟩)] w
      fun e w' => e = .returned (.bool (gradeHit b.defects.length T b.length b.width lon g)) ∧ Below w.heap.size w w' := by
  obtain ⟨⟨s1, s2⟩, s3, s4⟩ := share_bd hg.1 hg.2 hl.1 hl.2 hw.1 hw.2
  have v1 : IntKind.i64.wrap (T * 1000) = T * 1000 := IntWalk.i64_in _ (by omega)
  have v2 : IntKind.i64.wrap (g.share * b.length) = g.share * b.length := IntWalk.i64_in _ (by omega)
  have v3 : IntKind.i64.wrap (g.share * b.length * b.width) = g.share * b.length * b.width := IntWalk.i64_in _ (by omega)
  by_cases h1 : (b.defects.length : Int) ≤ g.most
  · by_cases h2 : T * 1000 ≤ g.share * b.length * b.width
    · have HE := Lib.hid (show gradeHit b.defects.length T b.length b.width lon g = decide (g.clear ≤ lon) by simp [gradeHit, h1, h2])
      go_enter Try.func107, Try.ntmps107
      go_wp2_with fail
      go_ret
      exact ⟨ret_bool (by rw [HE.out]), (Below.refl _ _).alloc (Nat.le_refl _) _⟩
    · have HE := Lib.hid (show gradeHit b.defects.length T b.length b.width lon g = false by simp [gradeHit, h2])
      go_enter Try.func107, Try.ntmps107
      go_wp2_with fail
      go_ret
      exact ⟨ret_bool (by rw [HE.out]), (Below.refl _ _).alloc (Nat.le_refl _) _⟩
  · have HE := Lib.hid (show gradeHit b.defects.length T b.length b.width lon g = false by simp [gradeHit, h1])
    go_enter Try.func107, Try.ntmps107
    go_wp2_with fail
    go_ret
    exact ⟨ret_bool (by rw [HE.out]), (Below.refl _ _).alloc (Nat.le_refl _) _⟩
end Go.Proofs.Ythhchnhidhgccaa
