/- Jobs: what the program's CheckBlanks, CheckTrim and checkBoard return. -/
import Derived.Test.YtepiapgcpoifpaaGreatG2
set_option linter.unusedVariables false
set_option linter.unusedSimpArgs false
namespace Go.Proofs.YtepiapgcpoifpaaGreat
open Go Go.RowKit Go.Maps Go.WideMaps

def rngB (x : Blank) : Bool := withinB x.length 1 600000 && (withinB x.width 1 600000 && (withinB x.thick 1 600000 && withinB x.count 1 200))
def bkGo (pre : List ByteArray) : List Blank → Int
  | [] => 0
  | b :: r => if (nameB b.name && nameB b.species) = false then 4 else if (pre.any fun t => b.name.toList == t.toList) then 5 else if rngB b = false then 2 else bkGo (pre ++ [b.name]) r
def checkBlanksE (l : List Blank) : Int := if 30 < l.length then 8 else bkGo [] l
def trimE (t : Trim) : Int := if withinB t.kerf 0 10000 = false ∨ withinB t.ends 0 10000 = false ∨ withinB t.sides 0 10000 = false then 2 else 0
section
variable {l : List Blank} {k : Nat} {e : Int}
theorem bkGo_name (hk : k < l.length) (h : e = bkGo ((l.map (·.name)).take k) (l.drop k)) (h1 : (nameB l[k].name && nameB l[k].species) = false) : e = 4 := by
  rw [h, List.drop_eq_getElem_cons hk, bkGo, if_pos h1]
theorem bkGo_dup (hk : k < l.length) (h : e = bkGo ((l.map (·.name)).take k) (l.drop k)) (h1 : (nameB l[k].name && nameB l[k].species) = true)
    (h2 : (((l.map (·.name)).take k).any fun t => l[k].name.toList == t.toList) = true) : e = 5 := by
  rw [h, List.drop_eq_getElem_cons hk, bkGo, if_neg (by simp [h1]), if_pos h2]
theorem bkGo_range (hk : k < l.length) (h : e = bkGo ((l.map (·.name)).take k) (l.drop k)) (h1 : (nameB l[k].name && nameB l[k].species) = true)
    (h2 : (((l.map (·.name)).take k).any fun t => l[k].name.toList == t.toList) = false) (h3 : rngB l[k] = false) : e = 2 := by
  rw [h, List.drop_eq_getElem_cons hk, bkGo, if_neg (by simp [h1]), if_neg (by simp [h2]), if_pos h3]
theorem bkGo_next (hk : k < l.length) (h : e = bkGo ((l.map (·.name)).take k) (l.drop k)) (h1 : (nameB l[k].name && nameB l[k].species) = true)
    (h2 : (((l.map (·.name)).take k).any fun t => l[k].name.toList == t.toList) = false) (h3 : rngB l[k] = true) : e = bkGo ((l.map (·.name)).take (k + 1)) (l.drop (k + 1)) := by
  rw [h, List.drop_eq_getElem_cons hk, bkGo, if_neg (by simp [h1]), if_neg (by simp [h2]), if_neg (by simp [h3]), take_map_step _ hk]
theorem bkGo_end (hk : l.length ≤ k) (h : e = bkGo ((l.map (·.name)).take k) (l.drop k)) : e = 0 := by
  rw [h, List.drop_eq_nil_of_le hk]; rfl
end


set_option maxRecDepth 100000 in
set_option maxHeartbeats 8000000 in
theorem checkBlanksP_any (a : Option Addr) (l : List Blank) (c : Nat) (w : World) (hv : Blanks.V w a l) (hl : l.length ≤ 9223372036854775807) :
    Calls Tryz.prog 76 #[.slice a l.length c] w fun e w' => e = .returned (.int .i64 (checkBlanksE l)) ∧ Below w.heap.size w w' := by
  by_cases hbig : 30 < l.length
  · go_enter Tryz.func76, Tryz.ntmps76
    go_wp2_with fail
    go_ret
    exact ⟨ret_int (by simp [checkBlanksE, hbig]), Below.refl _ _⟩
  have hmm := @run_makeMap Tryz.prog
  have HF := Lib.hid (show checkBlanksE l = bkGo ((l.map (·.name)).take 0) (l.drop 0) by simp [checkBlanksE, hbig])
  go_enter Tryz.func76, Tryz.ntmps76
  go_wp2_with fail
  go_loopw [12] (fun i wr => ∃ k : Nat, k ≤ l.length ∧ i = .int .i64 k ∧ Hid (checkBlanksE l = bkGo ((l.map (·.name)).take k) (l.drop k)) ∧ Hid (Seen wr w.heap.size k ((l.map (·.name)).take k)) ∧ Below w.heap.size w wr ∧ w.heap.size < wr.heap.size) (fun i _ => l.length - (intOf i).toNat)
  case atStart => exact ⟨0, Nat.zero_le _, rfl, HF, Lib.hid (Seen.made w), (Below.refl _ _).alloc (Nat.le_refl _) _, by simp⟩
  case round =>
    clear HF
    obtain ⟨k, hk, rfl, HF, HS, hbw, hzw⟩ := hrel
    have hsz := hbw.size
    by_cases hlt : k < l.length
    · obtain ⟨b, off, rfl, hat⟩ := (hv.keep hbw).at_ hlt
      obtain ⟨c0, c1, c2, c3, c4, c5, hwf⟩ := hat
      obtain ⟨hns, hss, -⟩ := hwf
      have hki : (k : Int) < (l.length : Int) := by omega
      have HNM := Lib.hid (fun h => bkGo_name hlt HF.out h)
      have HDU := Lib.hid (fun h h' => bkGo_dup hlt HF.out h h')
      have HRG := Lib.hid (fun h h' h3 => bkGo_range hlt HF.out h h' h3)
      have HNX := Lib.hid (fun h h' h3 => bkGo_next hlt HF.out h h' h3)
      have HTK := Lib.hid (show (l.map (·.name)).take (k + 1) = (l.map (·.name)).take k ++ [l[k].name] from take_map_step (·.name) hlt)
      clear HF
      unfold rngB at HRG HNX
      cases hd : (((l.map (·.name)).take k).any fun t => l[k].name.toList == t.toList)
      · have HDP := Lib.hid hd
        clear hd
        generalize hbd : l[k] = bd at *
        clear hbd
        obtain ⟨xn, xs, xl, xw, xt, xc⟩ := bd
        simp only at *
        cases h1 : nameB xn
        · go_wp2_with (first | (go_at_call 120; have hs1 := HS1.out; clear hs1; refine (cisName_any xs _ hss).mono ?_; rintro e w2 ⟨rfl, hb2⟩; obtain ⟨hc2, hf2⟩ := bcell hb2; have hz2 := hb2.size; have HS2 := Lib.hid ((show Seen w1 _ _ _ from HS1.out).below hb2); have hlk := Seen.run HS2.out xn hns; rw [HDP.out] at hlk; have hB2 := hB1.trans (hb2.mono (by omega)); have d0 : w2.cell? ⟨wr.heap.size, 0, none⟩ = some (.string xn) := cell_keep hb2 (cell_keep hb1 (by simp)); have d1 : w2.cell? ⟨wr.heap.size, 1, none⟩ = some (.string xs) := cell_keep hb2 (cell_keep hb1 (by simp)); have d2 : w2.cell? ⟨wr.heap.size, 2, none⟩ = some (.int .i64 xl) := cell_keep hb2 (cell_keep hb1 (by simp)); have d3 : w2.cell? ⟨wr.heap.size, 3, none⟩ = some (.int .i64 xw) := cell_keep hb2 (cell_keep hb1 (by simp)); have d4 : w2.cell? ⟨wr.heap.size, 4, none⟩ = some (.int .i64 xt) := cell_keep hb2 (cell_keep hb1 (by simp)); have d5 : w2.cell? ⟨wr.heap.size, 5, none⟩ = some (.int .i64 xc) := cell_keep hb2 (cell_keep hb1 (by simp))) | (go_at_call 120; refine (cisName_any xn _ hns).mono ?_; rintro e w1 ⟨rfl, hb1⟩; obtain ⟨hc1, hf1⟩ := bcell hb1; have hz1 := hb1.size; simp at hz1; have HS1 := Lib.hid (((show Seen wr _ _ _ from HS.out).below ((Below.refl _ _).alloc (Nat.le_refl _) _)).below hb1); have hB1 := (hbw.alloc hsz _).trans (hb1.mono (by simp; omega))) | (go_at_call 56; refine (cwithin_any _ _ _ _).mono ?_; rintro e w3 ⟨rfl, rfl⟩))
          go_ret
          exact ⟨ret_int (HNM.out (by simp [h1])).symm, hB1⟩
        cases h2 : nameB xs
        · go_wp2_with (first | (go_at_call 120; have hs1 := HS1.out; clear hs1; refine (cisName_any xs _ hss).mono ?_; rintro e w2 ⟨rfl, hb2⟩; obtain ⟨hc2, hf2⟩ := bcell hb2; have hz2 := hb2.size; have HS2 := Lib.hid ((show Seen w1 _ _ _ from HS1.out).below hb2); have hlk := Seen.run HS2.out xn hns; rw [HDP.out] at hlk; have hB2 := hB1.trans (hb2.mono (by omega)); have d0 : w2.cell? ⟨wr.heap.size, 0, none⟩ = some (.string xn) := cell_keep hb2 (cell_keep hb1 (by simp)); have d1 : w2.cell? ⟨wr.heap.size, 1, none⟩ = some (.string xs) := cell_keep hb2 (cell_keep hb1 (by simp)); have d2 : w2.cell? ⟨wr.heap.size, 2, none⟩ = some (.int .i64 xl) := cell_keep hb2 (cell_keep hb1 (by simp)); have d3 : w2.cell? ⟨wr.heap.size, 3, none⟩ = some (.int .i64 xw) := cell_keep hb2 (cell_keep hb1 (by simp)); have d4 : w2.cell? ⟨wr.heap.size, 4, none⟩ = some (.int .i64 xt) := cell_keep hb2 (cell_keep hb1 (by simp)); have d5 : w2.cell? ⟨wr.heap.size, 5, none⟩ = some (.int .i64 xc) := cell_keep hb2 (cell_keep hb1 (by simp))) | (go_at_call 120; refine (cisName_any xn _ hns).mono ?_; rintro e w1 ⟨rfl, hb1⟩; obtain ⟨hc1, hf1⟩ := bcell hb1; have hz1 := hb1.size; simp at hz1; have HS1 := Lib.hid (((show Seen wr _ _ _ from HS.out).below ((Below.refl _ _).alloc (Nat.le_refl _) _)).below hb1); have hB1 := (hbw.alloc hsz _).trans (hb1.mono (by simp; omega))) | (go_at_call 56; refine (cwithin_any _ _ _ _).mono ?_; rintro e w3 ⟨rfl, rfl⟩))
          go_ret
          exact ⟨ret_int (HNM.out (by simp [h1, h2])).symm, hB2⟩
        cases h3 : withinB xl 1 600000
        · go_wp2_with (first | (go_at_call 120; have hs1 := HS1.out; clear hs1; refine (cisName_any xs _ hss).mono ?_; rintro e w2 ⟨rfl, hb2⟩; obtain ⟨hc2, hf2⟩ := bcell hb2; have hz2 := hb2.size; have HS2 := Lib.hid ((show Seen w1 _ _ _ from HS1.out).below hb2); have hlk := Seen.run HS2.out xn hns; rw [HDP.out] at hlk; have hB2 := hB1.trans (hb2.mono (by omega)); have d0 : w2.cell? ⟨wr.heap.size, 0, none⟩ = some (.string xn) := cell_keep hb2 (cell_keep hb1 (by simp)); have d1 : w2.cell? ⟨wr.heap.size, 1, none⟩ = some (.string xs) := cell_keep hb2 (cell_keep hb1 (by simp)); have d2 : w2.cell? ⟨wr.heap.size, 2, none⟩ = some (.int .i64 xl) := cell_keep hb2 (cell_keep hb1 (by simp)); have d3 : w2.cell? ⟨wr.heap.size, 3, none⟩ = some (.int .i64 xw) := cell_keep hb2 (cell_keep hb1 (by simp)); have d4 : w2.cell? ⟨wr.heap.size, 4, none⟩ = some (.int .i64 xt) := cell_keep hb2 (cell_keep hb1 (by simp)); have d5 : w2.cell? ⟨wr.heap.size, 5, none⟩ = some (.int .i64 xc) := cell_keep hb2 (cell_keep hb1 (by simp))) | (go_at_call 120; refine (cisName_any xn _ hns).mono ?_; rintro e w1 ⟨rfl, hb1⟩; obtain ⟨hc1, hf1⟩ := bcell hb1; have hz1 := hb1.size; simp at hz1; have HS1 := Lib.hid (((show Seen wr _ _ _ from HS.out).below ((Below.refl _ _).alloc (Nat.le_refl _) _)).below hb1); have hB1 := (hbw.alloc hsz _).trans (hb1.mono (by simp; omega))) | (go_at_call 56; refine (cwithin_any _ _ _ _).mono ?_; rintro e w3 ⟨rfl, rfl⟩))
          go_ret
          exact ⟨ret_int (HRG.out (by simp [h1, h2]) HDP.out (by simp [h3])).symm, hB2⟩
        cases h4 : withinB xw 1 600000
        · go_wp2_with (first | (go_at_call 120; have hs1 := HS1.out; clear hs1; refine (cisName_any xs _ hss).mono ?_; rintro e w2 ⟨rfl, hb2⟩; obtain ⟨hc2, hf2⟩ := bcell hb2; have hz2 := hb2.size; have HS2 := Lib.hid ((show Seen w1 _ _ _ from HS1.out).below hb2); have hlk := Seen.run HS2.out xn hns; rw [HDP.out] at hlk; have hB2 := hB1.trans (hb2.mono (by omega)); have d0 : w2.cell? ⟨wr.heap.size, 0, none⟩ = some (.string xn) := cell_keep hb2 (cell_keep hb1 (by simp)); have d1 : w2.cell? ⟨wr.heap.size, 1, none⟩ = some (.string xs) := cell_keep hb2 (cell_keep hb1 (by simp)); have d2 : w2.cell? ⟨wr.heap.size, 2, none⟩ = some (.int .i64 xl) := cell_keep hb2 (cell_keep hb1 (by simp)); have d3 : w2.cell? ⟨wr.heap.size, 3, none⟩ = some (.int .i64 xw) := cell_keep hb2 (cell_keep hb1 (by simp)); have d4 : w2.cell? ⟨wr.heap.size, 4, none⟩ = some (.int .i64 xt) := cell_keep hb2 (cell_keep hb1 (by simp)); have d5 : w2.cell? ⟨wr.heap.size, 5, none⟩ = some (.int .i64 xc) := cell_keep hb2 (cell_keep hb1 (by simp))) | (go_at_call 120; refine (cisName_any xn _ hns).mono ?_; rintro e w1 ⟨rfl, hb1⟩; obtain ⟨hc1, hf1⟩ := bcell hb1; have hz1 := hb1.size; simp at hz1; have HS1 := Lib.hid (((show Seen wr _ _ _ from HS.out).below ((Below.refl _ _).alloc (Nat.le_refl _) _)).below hb1); have hB1 := (hbw.alloc hsz _).trans (hb1.mono (by simp; omega))) | (go_at_call 56; refine (cwithin_any _ _ _ _).mono ?_; rintro e w3 ⟨rfl, rfl⟩))
          go_ret
          exact ⟨ret_int (HRG.out (by simp [h1, h2]) HDP.out (by simp [h3, h4])).symm, hB2⟩
        cases h5 : withinB xt 1 600000
        · go_wp2_with (first | (go_at_call 120; have hs1 := HS1.out; clear hs1; refine (cisName_any xs _ hss).mono ?_; rintro e w2 ⟨rfl, hb2⟩; obtain ⟨hc2, hf2⟩ := bcell hb2; have hz2 := hb2.size; have HS2 := Lib.hid ((show Seen w1 _ _ _ from HS1.out).below hb2); have hlk := Seen.run HS2.out xn hns; rw [HDP.out] at hlk; have hB2 := hB1.trans (hb2.mono (by omega)); have d0 : w2.cell? ⟨wr.heap.size, 0, none⟩ = some (.string xn) := cell_keep hb2 (cell_keep hb1 (by simp)); have d1 : w2.cell? ⟨wr.heap.size, 1, none⟩ = some (.string xs) := cell_keep hb2 (cell_keep hb1 (by simp)); have d2 : w2.cell? ⟨wr.heap.size, 2, none⟩ = some (.int .i64 xl) := cell_keep hb2 (cell_keep hb1 (by simp)); have d3 : w2.cell? ⟨wr.heap.size, 3, none⟩ = some (.int .i64 xw) := cell_keep hb2 (cell_keep hb1 (by simp)); have d4 : w2.cell? ⟨wr.heap.size, 4, none⟩ = some (.int .i64 xt) := cell_keep hb2 (cell_keep hb1 (by simp)); have d5 : w2.cell? ⟨wr.heap.size, 5, none⟩ = some (.int .i64 xc) := cell_keep hb2 (cell_keep hb1 (by simp))) | (go_at_call 120; refine (cisName_any xn _ hns).mono ?_; rintro e w1 ⟨rfl, hb1⟩; obtain ⟨hc1, hf1⟩ := bcell hb1; have hz1 := hb1.size; simp at hz1; have HS1 := Lib.hid (((show Seen wr _ _ _ from HS.out).below ((Below.refl _ _).alloc (Nat.le_refl _) _)).below hb1); have hB1 := (hbw.alloc hsz _).trans (hb1.mono (by simp; omega))) | (go_at_call 56; refine (cwithin_any _ _ _ _).mono ?_; rintro e w3 ⟨rfl, rfl⟩))
          go_ret
          exact ⟨ret_int (HRG.out (by simp [h1, h2]) HDP.out (by simp [h3, h4, h5])).symm, hB2⟩
        cases h6 : withinB xc 1 200
        · go_wp2_with (first | (go_at_call 120; have hs1 := HS1.out; clear hs1; refine (cisName_any xs _ hss).mono ?_; rintro e w2 ⟨rfl, hb2⟩; obtain ⟨hc2, hf2⟩ := bcell hb2; have hz2 := hb2.size; have HS2 := Lib.hid ((show Seen w1 _ _ _ from HS1.out).below hb2); have hlk := Seen.run HS2.out xn hns; rw [HDP.out] at hlk; have hB2 := hB1.trans (hb2.mono (by omega)); have d0 : w2.cell? ⟨wr.heap.size, 0, none⟩ = some (.string xn) := cell_keep hb2 (cell_keep hb1 (by simp)); have d1 : w2.cell? ⟨wr.heap.size, 1, none⟩ = some (.string xs) := cell_keep hb2 (cell_keep hb1 (by simp)); have d2 : w2.cell? ⟨wr.heap.size, 2, none⟩ = some (.int .i64 xl) := cell_keep hb2 (cell_keep hb1 (by simp)); have d3 : w2.cell? ⟨wr.heap.size, 3, none⟩ = some (.int .i64 xw) := cell_keep hb2 (cell_keep hb1 (by simp)); have d4 : w2.cell? ⟨wr.heap.size, 4, none⟩ = some (.int .i64 xt) := cell_keep hb2 (cell_keep hb1 (by simp)); have d5 : w2.cell? ⟨wr.heap.size, 5, none⟩ = some (.int .i64 xc) := cell_keep hb2 (cell_keep hb1 (by simp))) | (go_at_call 120; refine (cisName_any xn _ hns).mono ?_; rintro e w1 ⟨rfl, hb1⟩; obtain ⟨hc1, hf1⟩ := bcell hb1; have hz1 := hb1.size; simp at hz1; have HS1 := Lib.hid (((show Seen wr _ _ _ from HS.out).below ((Below.refl _ _).alloc (Nat.le_refl _) _)).below hb1); have hB1 := (hbw.alloc hsz _).trans (hb1.mono (by simp; omega))) | (go_at_call 56; refine (cwithin_any _ _ _ _).mono ?_; rintro e w3 ⟨rfl, rfl⟩))
          go_ret
          exact ⟨ret_int (HRG.out (by simp [h1, h2]) HDP.out (by simp [h3, h4, h5, h6])).symm, hB2⟩
        · go_wp2_with (first | (go_at_call 120; have hs1 := HS1.out; clear hs1; refine (cisName_any xs _ hss).mono ?_; rintro e w2 ⟨rfl, hb2⟩; obtain ⟨hc2, hf2⟩ := bcell hb2; have hz2 := hb2.size; have HS2 := Lib.hid ((show Seen w1 _ _ _ from HS1.out).below hb2); have hlk := Seen.run HS2.out xn hns; rw [HDP.out] at hlk; have hB2 := hB1.trans (hb2.mono (by omega)); have d0 : w2.cell? ⟨wr.heap.size, 0, none⟩ = some (.string xn) := cell_keep hb2 (cell_keep hb1 (by simp)); have d1 : w2.cell? ⟨wr.heap.size, 1, none⟩ = some (.string xs) := cell_keep hb2 (cell_keep hb1 (by simp)); have d2 : w2.cell? ⟨wr.heap.size, 2, none⟩ = some (.int .i64 xl) := cell_keep hb2 (cell_keep hb1 (by simp)); have d3 : w2.cell? ⟨wr.heap.size, 3, none⟩ = some (.int .i64 xw) := cell_keep hb2 (cell_keep hb1 (by simp)); have d4 : w2.cell? ⟨wr.heap.size, 4, none⟩ = some (.int .i64 xt) := cell_keep hb2 (cell_keep hb1 (by simp)); have d5 : w2.cell? ⟨wr.heap.size, 5, none⟩ = some (.int .i64 xc) := cell_keep hb2 (cell_keep hb1 (by simp))) | (go_at_call 120; refine (cisName_any xn _ hns).mono ?_; rintro e w1 ⟨rfl, hb1⟩; obtain ⟨hc1, hf1⟩ := bcell hb1; have hz1 := hb1.size; simp at hz1; have HS1 := Lib.hid (((show Seen wr _ _ _ from HS.out).below ((Below.refl _ _).alloc (Nat.le_refl _) _)).below hb1); have hB1 := (hbw.alloc hsz _).trans (hb1.mono (by simp; omega))) | (go_at_call 56; refine (cwithin_any _ _ _ _).mono ?_; rintro e w3 ⟨rfl, rfl⟩) | (at_mapUpdate; refine wpList_seen rfl _ _ _ rfl w.heap.size k _ xn hns (by omega) rfl rfl rfl HS2.out ?_; intro w4 hS4 hg4; have HS4 := Lib.hid hS4; clear hS4))
          have hS4 := HS4.out
          rw [← HTK.out] at hS4
          go_roundw
          case rel => exact ⟨k + 1, by omega, by go_num, Lib.hid (HNX.out (by simp [h1, h2]) HDP.out (by simp [h3, h4, h5, h6])), Lib.hid hS4, hB2.grown hg4 (by omega) (fun j hj => by cases hj; omega), by have := hg4.size; omega⟩
          case measure => simp [intOf]; omega
      · have HDP := Lib.hid hd
        clear hd
        generalize hbd : l[k] = bd at *
        clear hbd
        obtain ⟨xn, xs, xl, xw, xt, xc⟩ := bd
        simp only at *
        cases h1 : nameB xn
        · go_wp2_with (first | (go_at_call 120; have hs1 := HS1.out; clear hs1; refine (cisName_any xs _ hss).mono ?_; rintro e w2 ⟨rfl, hb2⟩; obtain ⟨hc2, hf2⟩ := bcell hb2; have hz2 := hb2.size; have HS2 := Lib.hid ((show Seen w1 _ _ _ from HS1.out).below hb2); have hlk := Seen.run HS2.out xn hns; rw [HDP.out] at hlk; have hB2 := hB1.trans (hb2.mono (by omega)); have d0 : w2.cell? ⟨wr.heap.size, 0, none⟩ = some (.string xn) := cell_keep hb2 (cell_keep hb1 (by simp)); have d1 : w2.cell? ⟨wr.heap.size, 1, none⟩ = some (.string xs) := cell_keep hb2 (cell_keep hb1 (by simp)); have d2 : w2.cell? ⟨wr.heap.size, 2, none⟩ = some (.int .i64 xl) := cell_keep hb2 (cell_keep hb1 (by simp)); have d3 : w2.cell? ⟨wr.heap.size, 3, none⟩ = some (.int .i64 xw) := cell_keep hb2 (cell_keep hb1 (by simp)); have d4 : w2.cell? ⟨wr.heap.size, 4, none⟩ = some (.int .i64 xt) := cell_keep hb2 (cell_keep hb1 (by simp)); have d5 : w2.cell? ⟨wr.heap.size, 5, none⟩ = some (.int .i64 xc) := cell_keep hb2 (cell_keep hb1 (by simp))) | (go_at_call 120; refine (cisName_any xn _ hns).mono ?_; rintro e w1 ⟨rfl, hb1⟩; obtain ⟨hc1, hf1⟩ := bcell hb1; have hz1 := hb1.size; simp at hz1; have HS1 := Lib.hid (((show Seen wr _ _ _ from HS.out).below ((Below.refl _ _).alloc (Nat.le_refl _) _)).below hb1); have hB1 := (hbw.alloc hsz _).trans (hb1.mono (by simp; omega))) | (go_at_call 56; refine (cwithin_any _ _ _ _).mono ?_; rintro e w3 ⟨rfl, rfl⟩))
          go_ret
          exact ⟨ret_int (HNM.out (by simp [h1])).symm, hB1⟩
        cases h2 : nameB xs
        · go_wp2_with (first | (go_at_call 120; have hs1 := HS1.out; clear hs1; refine (cisName_any xs _ hss).mono ?_; rintro e w2 ⟨rfl, hb2⟩; obtain ⟨hc2, hf2⟩ := bcell hb2; have hz2 := hb2.size; have HS2 := Lib.hid ((show Seen w1 _ _ _ from HS1.out).below hb2); have hlk := Seen.run HS2.out xn hns; rw [HDP.out] at hlk; have hB2 := hB1.trans (hb2.mono (by omega)); have d0 : w2.cell? ⟨wr.heap.size, 0, none⟩ = some (.string xn) := cell_keep hb2 (cell_keep hb1 (by simp)); have d1 : w2.cell? ⟨wr.heap.size, 1, none⟩ = some (.string xs) := cell_keep hb2 (cell_keep hb1 (by simp)); have d2 : w2.cell? ⟨wr.heap.size, 2, none⟩ = some (.int .i64 xl) := cell_keep hb2 (cell_keep hb1 (by simp)); have d3 : w2.cell? ⟨wr.heap.size, 3, none⟩ = some (.int .i64 xw) := cell_keep hb2 (cell_keep hb1 (by simp)); have d4 : w2.cell? ⟨wr.heap.size, 4, none⟩ = some (.int .i64 xt) := cell_keep hb2 (cell_keep hb1 (by simp)); have d5 : w2.cell? ⟨wr.heap.size, 5, none⟩ = some (.int .i64 xc) := cell_keep hb2 (cell_keep hb1 (by simp))) | (go_at_call 120; refine (cisName_any xn _ hns).mono ?_; rintro e w1 ⟨rfl, hb1⟩; obtain ⟨hc1, hf1⟩ := bcell hb1; have hz1 := hb1.size; simp at hz1; have HS1 := Lib.hid (((show Seen wr _ _ _ from HS.out).below ((Below.refl _ _).alloc (Nat.le_refl _) _)).below hb1); have hB1 := (hbw.alloc hsz _).trans (hb1.mono (by simp; omega))) | (go_at_call 56; refine (cwithin_any _ _ _ _).mono ?_; rintro e w3 ⟨rfl, rfl⟩))
          go_ret
          exact ⟨ret_int (HNM.out (by simp [h1, h2])).symm, hB2⟩
        · go_wp2_with (first | (go_at_call 120; have hs1 := HS1.out; clear hs1; refine (cisName_any xs _ hss).mono ?_; rintro e w2 ⟨rfl, hb2⟩; obtain ⟨hc2, hf2⟩ := bcell hb2; have hz2 := hb2.size; have HS2 := Lib.hid ((show Seen w1 _ _ _ from HS1.out).below hb2); have hlk := Seen.run HS2.out xn hns; rw [HDP.out] at hlk; have hB2 := hB1.trans (hb2.mono (by omega)); have d0 : w2.cell? ⟨wr.heap.size, 0, none⟩ = some (.string xn) := cell_keep hb2 (cell_keep hb1 (by simp)); have d1 : w2.cell? ⟨wr.heap.size, 1, none⟩ = some (.string xs) := cell_keep hb2 (cell_keep hb1 (by simp)); have d2 : w2.cell? ⟨wr.heap.size, 2, none⟩ = some (.int .i64 xl) := cell_keep hb2 (cell_keep hb1 (by simp)); have d3 : w2.cell? ⟨wr.heap.size, 3, none⟩ = some (.int .i64 xw) := cell_keep hb2 (cell_keep hb1 (by simp)); have d4 : w2.cell? ⟨wr.heap.size, 4, none⟩ = some (.int .i64 xt) := cell_keep hb2 (cell_keep hb1 (by simp)); have d5 : w2.cell? ⟨wr.heap.size, 5, none⟩ = some (.int .i64 xc) := cell_keep hb2 (cell_keep hb1 (by simp))) | (go_at_call 120; refine (cisName_any xn _ hns).mono ?_; rintro e w1 ⟨rfl, hb1⟩; obtain ⟨hc1, hf1⟩ := bcell hb1; have hz1 := hb1.size; simp at hz1; have HS1 := Lib.hid (((show Seen wr _ _ _ from HS.out).below ((Below.refl _ _).alloc (Nat.le_refl _) _)).below hb1); have hB1 := (hbw.alloc hsz _).trans (hb1.mono (by simp; omega))) | (go_at_call 56; refine (cwithin_any _ _ _ _).mono ?_; rintro e w3 ⟨rfl, rfl⟩))
          go_ret
          exact ⟨ret_int (HDU.out (by simp [h1, h2]) HDP.out).symm, hB2⟩
    · have hm := Lib.hid (bkGo_end (by omega) HF.out)
      clear HF
      go_wp2_with fail
      go_ret
      exact ⟨ret_int hm.out.symm, hbw⟩
end Go.Proofs.YtepiapgcpoifpaaGreat
