/- Grades: IndexFunc over grades, the reference's CheckGrades. -/
import Derived.Test.YthhchnhidhgccaaGrade1
set_option linter.unusedVariables false
set_option linter.unusedSimpArgs false
namespace Go.Proofs.Ythhchnhidhgccaa
open Go Go.RowKit

set_option maxHeartbeats 2000000 in
theorem indexGrade_any (ga : Option Addr) (l : List Grade) (gc : Nat) (b : Board) (a : Option Addr) (c : Nat) (B1 B2 B3 : Nat) (T lon : Int) (w : World) (hv : Grades.V w ga l) (hl0 : l.length ≤ 9223372036854775807) (hT : 0 ≤ T ∧ T ≤ 100000000000000)
    (hg : ∀ g ∈ l, (0 ≤ g.share ∧ g.share ≤ 1000)) (hl : 1 ≤ b.length ∧ b.length ≤ 600000) (hw : 1 ≤ b.width ∧ b.width ≤ 100000)
    (e2 : w.cell? ⟨B1, 2, none⟩ = some (.int .i64 b.length)) (e3 : w.cell? ⟨B1, 3, none⟩ = some (.int .i64 b.width)) (e7 : w.cell? ⟨B1, 7, none⟩ = some (.slice a b.defects.length c))
    (eT : w.cell? ⟨B2, 0, none⟩ = some (.int .i64 T)) (eL : w.cell? ⟨B3, 0, none⟩ = some (.int .i64 lon)) (z1 : B1 < w.heap.size) (z2 : B2 < w.heap.size) (z3 : B3 < w.heap.size) :
    Calls Try.prog 106 #[.slice ga l.length gc, .func (.func 107) #[] #[.pointer (some ⟨B1, 0, none⟩), .pointer (some ⟨B2, 0, none⟩), .pointer (some ⟨B3, 0, none⟩)]] w
      fun e w' => e = .returned (.int .i64 (idxOf (gradeHit b.defects.length T b.length b.width lon) l)) ∧ Below w.heap.size w w' := by
  have HG := Lib.hid hg
  clear hg
  go_enter Try.func106, Try.ntmps106
  go_wp2
  go_loopw [8] (fun i wr => ∃ k : Nat, k ≤ l.length ∧ i = .int .i64 k ∧ Hid (∀ j (hj : j < l.length), j < k → gradeHit b.defects.length T b.length b.width lon l[j] = false) ∧ Below w.heap.size w wr) (fun i _ => l.length - (intOf i).toNat)
  case atStart => exact ⟨0, Nat.zero_le _, rfl, Lib.hid (fun j _ h => by omega), Below.refl _ _⟩
  case round =>
    obtain ⟨k, hk, rfl, HK, hbw⟩ := hrel
    by_cases hlt : k < l.length
    · obtain ⟨bk, off, rfl, hat⟩ := (hv.keep hbw).at_ hlt
      obtain ⟨c0, c1, c2, c3, -⟩ := hat
      have g2 := cell_keep hbw e2
      have g3 := cell_keep hbw e3
      have g7 := cell_keep hbw e7
      have gT := cell_keep hbw eT
      have gL := cell_keep hbw eL
      have hsz := hbw.size
      have hgk := HG.out _ (List.getElem_mem hlt)
      cases hq : gradeHit b.defects.length T b.length b.width lon l[k]
      · have HQ := Lib.hid hq
        clear hq
        go_wp2_with (go_at_call 107; refine (gradeOf1_any l[k] b a c B1 B2 B3 T lon _ hT hgk hl hw g2 g3 g7 gT gL (by omega) (by omega) (by omega)).mono ?_; rw [HQ.out]; rintro e w1 ⟨rfl, hb⟩)
        go_round
        case rel => exact ⟨k + 1, by omega, by go_num, Lib.hid (none_step (p := gradeHit b.defects.length T b.length b.width lon) HK.out hlt HQ.out), hbw.trans (hb.mono hsz)⟩
        case measure => simp [intOf]; omega
      · have HQ := Lib.hid hq
        clear hq
        go_wp2_with (go_at_call 107; refine (gradeOf1_any l[k] b a c B1 B2 B3 T lon _ hT hgk hl hw g2 g3 g7 gT gL (by omega) (by omega) (by omega)).mono ?_; rw [HQ.out]; rintro e w1 ⟨rfl, hb⟩)
        go_ret
        exact ⟨ret_int (idxOf_hit (p := gradeHit b.defects.length T b.length b.width lon) hlt HK.out HQ.out).symm, hbw.trans (hb.mono hsz)⟩
    · have hm := Lib.hid (idxOf_miss (p := gradeHit b.defects.length T b.length b.width lon) (l := l) (fun j hj => HK.out j hj (by omega)))
      clear HK
      go_wp2
      go_ret
      exact ⟨ret_int hm.out.symm, hbw⟩

set_option maxRecDepth 100000 in
set_option maxHeartbeats 4000000 in
theorem checkGrades_any (ga : Option Addr) (l : List Grade) (gc : Nat) (w : World) (hv : Grades.V w ga l) (hl0 : l.length ≤ 9223372036854775807) :
    Calls Try.prog 70 #[.slice ga l.length gc] w fun e w' => e = .returned (.int .i64 (gradesE l)) ∧ w = w' := by
  by_cases h20 : 20 < l.length
  · have h20i : (20 : Int) < (l.length : Int) := by omega
    have HE := Lib.hid (show gradesE l = 8 by simp [gradesE, h20])
    go_enter Try.func70, Try.ntmps70
    go_wp2_with fail
    go_ret
    exact ⟨ret_int HE.out.symm, rfl⟩
  have h20i : ¬ (20 : Int) < (l.length : Int) := by omega
  have HE := Lib.hid (show gradesE l = gradesGo l by simp [gradesE, h20])
  have HGO := Lib.hid (show gradesGo l = gradesGo (l.drop 0) from rfl)
  go_enter Try.func70, Try.ntmps70
  go_wp2_with fail
  go_loop [3] (fun i => ∃ k : Nat, k ≤ l.length ∧ i = .int .i64 k ∧ Hid (gradesGo l = gradesGo (l.drop k))) (fun i => l.length - (intOf i).toNat)
  case atStart => exact ⟨0, Nat.zero_le _, rfl, HGO⟩
  case round =>
    clear HGO
    obtain ⟨k, hk, rfl, HK⟩ := hrel
    by_cases hlt : k < l.length
    · obtain ⟨bk, off, rfl, hat⟩ := hv.at_ hlt
      obtain ⟨c0, c1, c2, c3, hgw⟩ := hat
      have hnm : l[k].name.size ≤ 9223372036854775807 := hgw.1
      have HX := Lib.hid (fun x (h1 : gradeE l[k] = x) hx => gradesGo_err hlt HK.out h1 hx)
      have HN := Lib.hid (fun (h1 : gradeE l[k] = 0) => gradesGo_next hlt HK.out h1)
      generalize l[k] = g at *
      clear HK
      cases q1 : nameB g.name
      · have HX2 := Lib.hid (HX.out 4 (by simp [gradeE, q1]) (by decide))
        go_wp2_with (go_at_call 85; refine (baseIsName_any _ _ hnm).mono ?_; rw [q1]; rintro e w' ⟨rfl, rfl⟩)
        go_ret
        exact ⟨ret_int (by rw [HE.out, HX2.out]), rfl⟩
      · cases q2 : withinB g.most 0 60
        · have HX2 := Lib.hid (HX.out 2 (by simp [gradeE, q1, q2]) (by decide))
          go_wp2_with (first | (go_at_call 85; refine (baseIsName_any _ _ hnm).mono ?_; rw [q1]; rintro e w' ⟨rfl, rfl⟩) | (go_at_call 28; refine (baseWithin_any _ _ _ _).mono ?_; rintro e w' ⟨rfl, rfl⟩))
          go_ret
          exact ⟨ret_int (by rw [HE.out, HX2.out]), rfl⟩
        · cases q3 : withinB g.share 0 1000
          · have HX2 := Lib.hid (HX.out 2 (by simp [gradeE, q1, q2, q3]) (by decide))
            go_wp2_with (first | (go_at_call 85; refine (baseIsName_any _ _ hnm).mono ?_; rw [q1]; rintro e w' ⟨rfl, rfl⟩) | (go_at_call 28; refine (baseWithin_any _ _ _ _).mono ?_; rintro e w' ⟨rfl, rfl⟩))
            go_ret
            exact ⟨ret_int (by rw [HE.out, HX2.out]), rfl⟩
          · cases q4 : withinB g.clear 0 600000
            · have HX2 := Lib.hid (HX.out 2 (by simp [gradeE, q1, q2, q3, q4]) (by decide))
              go_wp2_with (first | (go_at_call 85; refine (baseIsName_any _ _ hnm).mono ?_; rw [q1]; rintro e w' ⟨rfl, rfl⟩) | (go_at_call 28; refine (baseWithin_any _ _ _ _).mono ?_; rintro e w' ⟨rfl, rfl⟩))
              go_ret
              exact ⟨ret_int (by rw [HE.out, HX2.out]), rfl⟩
            · have HN2 := Lib.hid (HN.out (by simp [gradeE, q1, q2, q3, q4]))
              go_wp2_with (first | (go_at_call 85; refine (baseIsName_any _ _ hnm).mono ?_; rw [q1]; rintro e w' ⟨rfl, rfl⟩) | (go_at_call 28; refine (baseWithin_any _ _ _ _).mono ?_; rintro e w' ⟨rfl, rfl⟩))
              go_round
              case rel => exact ⟨k + 1, by omega, by go_num, HN2⟩
              case measure => simp [intOf]; omega
    · have HX2 := Lib.hid (gradesGo_end (by omega) HK.out)
      have hkn : ¬ (k : Int) < (l.length : Int) := by omega
      clear HK
      go_wp2_with fail
      go_ret
      exact ⟨ret_int (by rw [HE.out, HX2.out]), rfl⟩
end Go.Proofs.Ythhchnhidhgccaa
