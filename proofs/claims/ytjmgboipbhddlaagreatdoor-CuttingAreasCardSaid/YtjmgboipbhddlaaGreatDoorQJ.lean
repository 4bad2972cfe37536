import Derived.Test.YtjmgboipbhddlaaGreatDoorQA
set_option linter.unusedVariables false
set_option linter.unusedSimpArgs false
namespace Go.Proofs.YtjmgboipbhddlaaGreatDoor
open Go Go.RowKit Go.Maps Go.WideMaps

def rngB (x : Blank) : Bool := withinB x.length 1 600000 && (withinB x.width 1 600000 && (withinB x.thick 1 600000 && withinB x.count 1 200))
def bkGo (pre : List ByteArray) : List Blank → Int
 | [] => 0
 | b :: r => if (nameB b.name && nameB b.species) = false then 4 else if (pre.any fun t => b.name.toList == t.toList) then 5 else if rngB b = false then 2 else bkGo (pre ++ [b.name]) r
def checkBlanksE (l : List Blank) : Int := if 30 < l.length then 8 else bkGo [] l
def trimE (t : Trim) : Int := if withinB t.kerf 0 10000 = false ∨ withinB t.ends 0 10000 = false ∨ withinB t.sides 0 10000 = false then 2 else 0
section
variable {l : List Blank} {k : Nat} {e : Int}
theorem bkGo_name (hk : k < l.length) (h : e = bkGo ((l.map (·.name)).take k) (l.drop k)) (h1 : (nameB l[k].name && nameB l[k].species) = false) : e = 4 := by
 rw [h, List.drop_eq_getElem_cons hk, bkGo, if_pos h1]
theorem bkGo_dup (hk : k < l.length) (h : e = bkGo ((l.map (·.name)).take k) (l.drop k)) (h1 : (nameB l[k].name && nameB l[k].species) = true)
    (h2 : (((l.map (·.name)).take k).any fun t => l[k].name.toList == t.toList) = true) : e = 5 := by
 rw [h, List.drop_eq_getElem_cons hk, bkGo, if_neg (by simp [h1]), if_pos h2]
theorem bkGo_range (hk : k < l.length) (h : e = bkGo ((l.map (·.name)).take k) (l.drop k)) (h1 : (nameB l[k].name && nameB l[k].species) = true)
    (h2 : (((l.map (·.name)).take k).any fun t => l[k].name.toList == t.toList) = false) (h3 : rngB l[k] = false) : e = 2 := by
 rw [h, List.drop_eq_getElem_cons hk, bkGo, if_neg (by simp [h1]), if_neg (by simp [h2]), if_pos h3]
theorem bkGo_next (hk : k < l.length) (h : e = bkGo ((l.map (·.name)).take k) (l.drop k)) (h1 : (nameB l[k].name && nameB l[k].species) = true)
    (h2 : (((l.map (·.name)).take k).any fun t => l[k].name.toList == t.toList) = false) (h3 : rngB l[k] = true) : e = bkGo ((l.map (·.name)).take (k + 1)) (l.drop (k + 1)) := by
 rw [h, List.drop_eq_getElem_cons hk, bkGo, if_neg (by simp [h1]), if_neg (by simp [h2]), if_neg (by simp [h3]), take_map_step _ hk]
theorem bkGo_end (hk : l.length ≤ k) (h : e = bkGo ((l.map (·.name)).take k) (l.drop k)) : e = 0 := by
 rw [h, List.drop_eq_nil_of_le hk]; rfl
end


set_option maxRecDepth 100000 in
set_option maxHeartbeats 8000000 in
theorem checkBlanksP_any (a : Option Addr) (l : List Blank) (c : Nat) (w : World) (hv : Blanks.V w a l) (hl : l.length ≤ 9223372036854775807) :
    Calls Tryz.prog 72 #[.slice a l.length c] w fun e w' => e = .returned (.int .i64 (checkBlanksE l)) ∧ Below w.heap.size w w' := by
 by_cases hbig : 30 < l.length
 ·go_enter Tryz.func72, Tryz.ntmps72
  go_wp2_with fail
  go_ret
  exact ⟨ret_int (by simp [checkBlanksE, hbig]), Below.refl _ _⟩
 have hmm := @run_makeMap Tryz.prog
 have HF := Lib.hid (show checkBlanksE l = bkGo ((l.map (·.name)).take 0) (l.drop 0) by simp [checkBlanksE, hbig])
 go_enter Tryz.func72, Tryz.ntmps72
 go_wp2_with fail
 go_loopw [12] (fun i wr => ∃ k : Nat, k ≤ l.length ∧ i = .int .i64 k ∧ Hid (checkBlanksE l = bkGo ((l.map (·.name)).take k) (l.drop k)) ∧ Hid (Seen wr w.heap.size k ((l.map (·.name)).take k)) ∧ Below w.heap.size w wr ∧ w.heap.size < wr.heap.size) (fun i _ => l.length - (intOf i).toNat)
 case atStart => exact ⟨0, Nat.zero_le _, rfl, HF, Lib.hid (Seen.made w), (Below.refl _ _).alloc (Nat.le_refl _) _, by simp⟩
 case round =>
  clear HF
  obtain ⟨k, hk, rfl, HF, HS, hbw, hzw⟩ := hrel
  have hsz := hbw.size
  by_cases hlt : k < l.length
  ·obtain ⟨b, off, rfl, hat⟩ := (hv.keep hbw).at_ hlt
   obtain ⟨c0, c1, c2, c3, c4, c5, hwf⟩ := hat
   obtain ⟨hns, hss, -⟩ := hwf
   have hki : (k : Int) < (l.length : Int) := by omega
   have HNM := Lib.hid (fun h => bkGo_name hlt HF.out h)
   have HDU := Lib.hid (fun h h' => bkGo_dup hlt HF.out h h')
   have HRG := Lib.hid (fun h h' h3 => bkGo_range hlt HF.out h h' h3)
   have HNX := Lib.hid (fun h h' h3 => bkGo_next hlt HF.out h h' h3)
   have HTK := Lib.hid (show (l.map (·.name)).take (k + 1) = (l.map (·.name)).take k ++ [l[k].name] from take_map_step (·.name) hlt)
   clear HF
   unfold rngB at HRG HNX
   cases hd : (((l.map (·.name)).take k).any fun t => l[k].name.toList == t.toList)
   ·have HDP := Lib.hid hd
    clear hd
    generalize hbd : l[k] = bd at *
    clear hbd
    obtain ⟨xn, xs, xl, xw, xt, xc⟩ := bd
    simp only at *
    cases h1 : nameB xn
    ·go_wp2_with (first | (go_at_call 102; have hs1 := HS1.out; clear hs1; refine (cisName_any xs _ hss).mono ?_; rintro e w2 ⟨rfl, hb2⟩; obtain ⟨hc2, hf2⟩ := bcell hb2; have hz2 := hb2.size; have HS2 := Lib.hid ((show Seen w1 _ _ _ from HS1.out).below hb2); have hlk := Seen.run HS2.out xn hns; rw [HDP.out] at hlk; have hB2 := hB1.trans (hb2.mono (by omega)); have d0 : w2.cell? ⟨wr.heap.size, 0, none⟩ = some (.string xn) := cell_keep hb2 (cell_keep hb1 (by simp)); have d1 : w2.cell? ⟨wr.heap.size, 1, none⟩ = some (.string xs) := cell_keep hb2 (cell_keep hb1 (by simp)); have d2 : w2.cell? ⟨wr.heap.size, 2, none⟩ = some (.int .i64 xl) := cell_keep hb2 (cell_keep hb1 (by simp)); have d3 : w2.cell? ⟨wr.heap.size, 3, none⟩ = some (.int .i64 xw) := cell_keep hb2 (cell_keep hb1 (by simp)); have d4 : w2.cell? ⟨wr.heap.size, 4, none⟩ = some (.int .i64 xt) := cell_keep hb2 (cell_keep hb1 (by simp)); have d5 : w2.cell? ⟨wr.heap.size, 5, none⟩ = some (.int .i64 xc) := cell_keep hb2 (cell_keep hb1 (by simp))) | (go_at_call 102; refine (cisName_any xn _ hns).mono ?_; rintro e w1 ⟨rfl, hb1⟩; obtain ⟨hc1, hf1⟩ := bcell hb1; have hz1 := hb1.size; simp at hz1; have HS1 := Lib.hid (((show Seen wr _ _ _ from HS.out).below ((Below.refl _ _).alloc (Nat.le_refl _) _)).below hb1); have hB1 := (hbw.alloc hsz _).trans (hb1.mono (by simp; omega))) | (go_at_call 30; refine (cwithin_any _ _ _ _).mono ?_; rintro e w3 ⟨rfl, rfl⟩))
     go_ret
     exact ⟨ret_int (HNM.out (by simp [h1])).symm, hB1⟩
    cases h2 : nameB xs
    ·go_wp2_with (first | (go_at_call 102; have hs1 := HS1.out; clear hs1; refine (cisName_any xs _ hss).mono ?_; rintro e w2 ⟨rfl, hb2⟩; obtain ⟨hc2, hf2⟩ := bcell hb2; have hz2 := hb2.size; have HS2 := Lib.hid ((show Seen w1 _ _ _ from HS1.out).below hb2); have hlk := Seen.run HS2.out xn hns; rw [HDP.out] at hlk; have hB2 := hB1.trans (hb2.mono (by omega)); have d0 : w2.cell? ⟨wr.heap.size, 0, none⟩ = some (.string xn) := cell_keep hb2 (cell_keep hb1 (by simp)); have d1 : w2.cell? ⟨wr.heap.size, 1, none⟩ = some (.string xs) := cell_keep hb2 (cell_keep hb1 (by simp)); have d2 : w2.cell? ⟨wr.heap.size, 2, none⟩ = some (.int .i64 xl) := cell_keep hb2 (cell_keep hb1 (by simp)); have d3 : w2.cell? ⟨wr.heap.size, 3, none⟩ = some (.int .i64 xw) := cell_keep hb2 (cell_keep hb1 (by simp)); have d4 : w2.cell? ⟨wr.heap.size, 4, none⟩ = some (.int .i64 xt) := cell_keep hb2 (cell_keep hb1 (by simp)); have d5 : w2.cell? ⟨wr.heap.size, 5, none⟩ = some (.int .i64 xc) := cell_keep hb2 (cell_keep hb1 (by simp))) | (go_at_call 102; refine (cisName_any xn _ hns).mono ?_; rintro e w1 ⟨rfl, hb1⟩; obtain ⟨hc1, hf1⟩ := bcell hb1; have hz1 := hb1.size; simp at hz1; have HS1 := Lib.hid (((show Seen wr _ _ _ from HS.out).below ((Below.refl _ _).alloc (Nat.le_refl _) _)).below hb1); have hB1 := (hbw.alloc hsz _).trans (hb1.mono (by simp; omega))) | (go_at_call 30; refine (cwithin_any _ _ _ _).mono ?_; rintro e w3 ⟨rfl, rfl⟩))
     go_ret
     exact ⟨ret_int (HNM.out (by simp [h1, h2])).symm, hB2⟩
    cases h3 : withinB xl 1 600000
    ·go_wp2_with (first | (go_at_call 102; have hs1 := HS1.out; clear hs1; refine (cisName_any xs _ hss).mono ?_; rintro e w2 ⟨rfl, hb2⟩; obtain ⟨hc2, hf2⟩ := bcell hb2; have hz2 := hb2.size; have HS2 := Lib.hid ((show Seen w1 _ _ _ from HS1.out).below hb2); have hlk := Seen.run HS2.out xn hns; rw [HDP.out] at hlk; have hB2 := hB1.trans (hb2.mono (by omega)); have d0 : w2.cell? ⟨wr.heap.size, 0, none⟩ = some (.string xn) := cell_keep hb2 (cell_keep hb1 (by simp)); have d1 : w2.cell? ⟨wr.heap.size, 1, none⟩ = some (.string xs) := cell_keep hb2 (cell_keep hb1 (by simp)); have d2 : w2.cell? ⟨wr.heap.size, 2, none⟩ = some (.int .i64 xl) := cell_keep hb2 (cell_keep hb1 (by simp)); have d3 : w2.cell? ⟨wr.heap.size, 3, none⟩ = some (.int .i64 xw) := cell_keep hb2 (cell_keep hb1 (by simp)); have d4 : w2.cell? ⟨wr.heap.size, 4, none⟩ = some (.int .i64 xt) := cell_keep hb2 (cell_keep hb1 (by simp)); have d5 : w2.cell? ⟨wr.heap.size, 5, none⟩ = some (.int .i64 xc) := cell_keep hb2 (cell_keep hb1 (by simp))) | (go_at_call 102; refine (cisName_any xn _ hns).mono ?_; rintro e w1 ⟨rfl, hb1⟩; obtain ⟨hc1, hf1⟩ := bcell hb1; have hz1 := hb1.size; simp at hz1; have HS1 := Lib.hid (((show Seen wr _ _ _ from HS.out).below ((Below.refl _ _).alloc (Nat.le_refl _) _)).below hb1); have hB1 := (hbw.alloc hsz _).trans (hb1.mono (by simp; omega))) | (go_at_call 30; refine (cwithin_any _ _ _ _).mono ?_; rintro e w3 ⟨rfl, rfl⟩))
     go_ret
     exact ⟨ret_int (HRG.out (by simp [h1, h2]) HDP.out (by simp [h3])).symm, hB2⟩
    cases h4 : withinB xw 1 600000
    ·go_wp2_with (first | (go_at_call 102; have hs1 := HS1.out; clear hs1; refine (cisName_any xs _ hss).mono ?_; rintro e w2 ⟨rfl, hb2⟩; obtain ⟨hc2, hf2⟩ := bcell hb2; have hz2 := hb2.size; have HS2 := Lib.hid ((show Seen w1 _ _ _ from HS1.out).below hb2); have hlk := Seen.run HS2.out xn hns; rw [HDP.out] at hlk; have hB2 := hB1.trans (hb2.mono (by omega)); have d0 : w2.cell? ⟨wr.heap.size, 0, none⟩ = some (.string xn) := cell_keep hb2 (cell_keep hb1 (by simp)); have d1 : w2.cell? ⟨wr.heap.size, 1, none⟩ = some (.string xs) := cell_keep hb2 (cell_keep hb1 (by simp)); have d2 : w2.cell? ⟨wr.heap.size, 2, none⟩ = some (.int .i64 xl) := cell_keep hb2 (cell_keep hb1 (by simp)); have d3 : w2.cell? ⟨wr.heap.size, 3, none⟩ = some (.int .i64 xw) := cell_keep hb2 (cell_keep hb1 (by simp)); have d4 : w2.cell? ⟨wr.heap.size, 4, none⟩ = some (.int .i64 xt) := cell_keep hb2 (cell_keep hb1 (by simp)); have d5 : w2.cell? ⟨wr.heap.size, 5, none⟩ = some (.int .i64 xc) := cell_keep hb2 (cell_keep hb1 (by simp))) | (go_at_call 102; refine (cisName_any xn _ hns).mono ?_; rintro e w1 ⟨rfl, hb1⟩; obtain ⟨hc1, hf1⟩ := bcell hb1; have hz1 := hb1.size; simp at hz1; have HS1 := Lib.hid (((show Seen wr _ _ _ from HS.out).below ((Below.refl _ _).alloc (Nat.le_refl _) _)).below hb1); have hB1 := (hbw.alloc hsz _).trans (hb1.mono (by simp; omega))) | (go_at_call 30; refine (cwithin_any _ _ _ _).mono ?_; rintro e w3 ⟨rfl, rfl⟩))
     go_ret
     exact ⟨ret_int (HRG.out (by simp [h1, h2]) HDP.out (by simp [h3, h4])).symm, hB2⟩
    cases h5 : withinB xt 1 600000
    ·go_wp2_with (first | (go_at_call 102; have hs1 := HS1.out; clear hs1; refine (cisName_any xs _ hss).mono ?_; rintro e w2 ⟨rfl, hb2⟩; obtain ⟨hc2, hf2⟩ := bcell hb2; have hz2 := hb2.size; have HS2 := Lib.hid ((show Seen w1 _ _ _ from HS1.out).below hb2); have hlk := Seen.run HS2.out xn hns; rw [HDP.out] at hlk; have hB2 := hB1.trans (hb2.mono (by omega)); have d0 : w2.cell? ⟨wr.heap.size, 0, none⟩ = some (.string xn) := cell_keep hb2 (cell_keep hb1 (by simp)); have d1 : w2.cell? ⟨wr.heap.size, 1, none⟩ = some (.string xs) := cell_keep hb2 (cell_keep hb1 (by simp)); have d2 : w2.cell? ⟨wr.heap.size, 2, none⟩ = some (.int .i64 xl) := cell_keep hb2 (cell_keep hb1 (by simp)); have d3 : w2.cell? ⟨wr.heap.size, 3, none⟩ = some (.int .i64 xw) := cell_keep hb2 (cell_keep hb1 (by simp)); have d4 : w2.cell? ⟨wr.heap.size, 4, none⟩ = some (.int .i64 xt) := cell_keep hb2 (cell_keep hb1 (by simp)); have d5 : w2.cell? ⟨wr.heap.size, 5, none⟩ = some (.int .i64 xc) := cell_keep hb2 (cell_keep hb1 (by simp))) | (go_at_call 102; refine (cisName_any xn _ hns).mono ?_; rintro e w1 ⟨rfl, hb1⟩; obtain ⟨hc1, hf1⟩ := bcell hb1; have hz1 := hb1.size; simp at hz1; have HS1 := Lib.hid (((show Seen wr _ _ _ from HS.out).below ((Below.refl _ _).alloc (Nat.le_refl _) _)).below hb1); have hB1 := (hbw.alloc hsz _).trans (hb1.mono (by simp; omega))) | (go_at_call 30; refine (cwithin_any _ _ _ _).mono ?_; rintro e w3 ⟨rfl, rfl⟩))
     go_ret
     exact ⟨ret_int (HRG.out (by simp [h1, h2]) HDP.out (by simp [h3, h4, h5])).symm, hB2⟩
    cases h6 : withinB xc 1 200
    ·go_wp2_with (first | (go_at_call 102; have hs1 := HS1.out; clear hs1; refine (cisName_any xs _ hss).mono ?_; rintro e w2 ⟨rfl, hb2⟩; obtain ⟨hc2, hf2⟩ := bcell hb2; have hz2 := hb2.size; have HS2 := Lib.hid ((show Seen w1 _ _ _ from HS1.out).below hb2); have hlk := Seen.run HS2.out xn hns; rw [HDP.out] at hlk; have hB2 := hB1.trans (hb2.mono (by omega)); have d0 : w2.cell? ⟨wr.heap.size, 0, none⟩ = some (.string xn) := cell_keep hb2 (cell_keep hb1 (by simp)); have d1 : w2.cell? ⟨wr.heap.size, 1, none⟩ = some (.string xs) := cell_keep hb2 (cell_keep hb1 (by simp)); have d2 : w2.cell? ⟨wr.heap.size, 2, none⟩ = some (.int .i64 xl) := cell_keep hb2 (cell_keep hb1 (by simp)); have d3 : w2.cell? ⟨wr.heap.size, 3, none⟩ = some (.int .i64 xw) := cell_keep hb2 (cell_keep hb1 (by simp)); have d4 : w2.cell? ⟨wr.heap.size, 4, none⟩ = some (.int .i64 xt) := cell_keep hb2 (cell_keep hb1 (by simp)); have d5 : w2.cell? ⟨wr.heap.size, 5, none⟩ = some (.int .i64 xc) := cell_keep hb2 (cell_keep hb1 (by simp))) | (go_at_call 102; refine (cisName_any xn _ hns).mono ?_; rintro e w1 ⟨rfl, hb1⟩; obtain ⟨hc1, hf1⟩ := bcell hb1; have hz1 := hb1.size; simp at hz1; have HS1 := Lib.hid (((show Seen wr _ _ _ from HS.out).below ((Below.refl _ _).alloc (Nat.le_refl _) _)).below hb1); have hB1 := (hbw.alloc hsz _).trans (hb1.mono (by simp; omega))) | (go_at_call 30; refine (cwithin_any _ _ _ _).mono ?_; rintro e w3 ⟨rfl, rfl⟩))
     go_ret
     exact ⟨ret_int (HRG.out (by simp [h1, h2]) HDP.out (by simp [h3, h4, h5, h6])).symm, hB2⟩
    ·go_wp2_with (first | (go_at_call 102; have hs1 := HS1.out; clear hs1; refine (cisName_any xs _ hss).mono ?_; rintro e w2 ⟨rfl, hb2⟩; obtain ⟨hc2, hf2⟩ := bcell hb2; have hz2 := hb2.size; have HS2 := Lib.hid ((show Seen w1 _ _ _ from HS1.out).below hb2); have hlk := Seen.run HS2.out xn hns; rw [HDP.out] at hlk; have hB2 := hB1.trans (hb2.mono (by omega)); have d0 : w2.cell? ⟨wr.heap.size, 0, none⟩ = some (.string xn) := cell_keep hb2 (cell_keep hb1 (by simp)); have d1 : w2.cell? ⟨wr.heap.size, 1, none⟩ = some (.string xs) := cell_keep hb2 (cell_keep hb1 (by simp)); have d2 : w2.cell? ⟨wr.heap.size, 2, none⟩ = some (.int .i64 xl) := cell_keep hb2 (cell_keep hb1 (by simp)); have d3 : w2.cell? ⟨wr.heap.size, 3, none⟩ = some (.int .i64 xw) := cell_keep hb2 (cell_keep hb1 (by simp)); have d4 : w2.cell? ⟨wr.heap.size, 4, none⟩ = some (.int .i64 xt) := cell_keep hb2 (cell_keep hb1 (by simp)); have d5 : w2.cell? ⟨wr.heap.size, 5, none⟩ = some (.int .i64 xc) := cell_keep hb2 (cell_keep hb1 (by simp))) | (go_at_call 102; refine (cisName_any xn _ hns).mono ?_; rintro e w1 ⟨rfl, hb1⟩; obtain ⟨hc1, hf1⟩ := bcell hb1; have hz1 := hb1.size; simp at hz1; have HS1 := Lib.hid (((show Seen wr _ _ _ from HS.out).below ((Below.refl _ _).alloc (Nat.le_refl _) _)).below hb1); have hB1 := (hbw.alloc hsz _).trans (hb1.mono (by simp; omega))) | (go_at_call 30; refine (cwithin_any _ _ _ _).mono ?_; rintro e w3 ⟨rfl, rfl⟩) | (at_mapUpdate; refine wpList_seen rfl _ _ _ rfl w.heap.size k _ xn hns (by omega) rfl rfl rfl HS2.out ?_; intro w4 hS4 hg4; have HS4 := Lib.hid hS4; clear hS4))
     have hS4 := HS4.out
     rw [← HTK.out] at hS4
     go_roundw
     case rel => exact ⟨k + 1, by omega, by go_num, Lib.hid (HNX.out (by simp [h1, h2]) HDP.out (by simp [h3, h4, h5, h6])), Lib.hid hS4, hB2.grown hg4 (by omega) (fun j hj => by cases hj; omega), by have := hg4.size; omega⟩
     case measure => simp [intOf]; omega
   ·have HDP := Lib.hid hd
    clear hd
    generalize hbd : l[k] = bd at *
    clear hbd
    obtain ⟨xn, xs, xl, xw, xt, xc⟩ := bd
    simp only at *
    cases h1 : nameB xn
    ·go_wp2_with (first | (go_at_call 102; have hs1 := HS1.out; clear hs1; refine (cisName_any xs _ hss).mono ?_; rintro e w2 ⟨rfl, hb2⟩; obtain ⟨hc2, hf2⟩ := bcell hb2; have hz2 := hb2.size; have HS2 := Lib.hid ((show Seen w1 _ _ _ from HS1.out).below hb2); have hlk := Seen.run HS2.out xn hns; rw [HDP.out] at hlk; have hB2 := hB1.trans (hb2.mono (by omega)); have d0 : w2.cell? ⟨wr.heap.size, 0, none⟩ = some (.string xn) := cell_keep hb2 (cell_keep hb1 (by simp)); have d1 : w2.cell? ⟨wr.heap.size, 1, none⟩ = some (.string xs) := cell_keep hb2 (cell_keep hb1 (by simp)); have d2 : w2.cell? ⟨wr.heap.size, 2, none⟩ = some (.int .i64 xl) := cell_keep hb2 (cell_keep hb1 (by simp)); have d3 : w2.cell? ⟨wr.heap.size, 3, none⟩ = some (.int .i64 xw) := cell_keep hb2 (cell_keep hb1 (by simp)); have d4 : w2.cell? ⟨wr.heap.size, 4, none⟩ = some (.int .i64 xt) := cell_keep hb2 (cell_keep hb1 (by simp)); have d5 : w2.cell? ⟨wr.heap.size, 5, none⟩ = some (.int .i64 xc) := cell_keep hb2 (cell_keep hb1 (by simp))) | (go_at_call 102; refine (cisName_any xn _ hns).mono ?_; rintro e w1 ⟨rfl, hb1⟩; obtain ⟨hc1, hf1⟩ := bcell hb1; have hz1 := hb1.size; simp at hz1; have HS1 := Lib.hid (((show Seen wr _ _ _ from HS.out).below ((Below.refl _ _).alloc (Nat.le_refl _) _)).below hb1); have hB1 := (hbw.alloc hsz _).trans (hb1.mono (by simp; omega))) | (go_at_call 30; refine (cwithin_any _ _ _ _).mono ?_; rintro e w3 ⟨rfl, rfl⟩))
     go_ret
     exact ⟨ret_int (HNM.out (by simp [h1])).symm, hB1⟩
    cases h2 : nameB xs
    ·go_wp2_with (first | (go_at_call 102; have hs1 := HS1.out; clear hs1; refine (cisName_any xs _ hss).mono ?_; rintro e w2 ⟨rfl, hb2⟩; obtain ⟨hc2, hf2⟩ := bcell hb2; have hz2 := hb2.size; have HS2 := Lib.hid ((show Seen w1 _ _ _ from HS1.out).below hb2); have hlk := Seen.run HS2.out xn hns; rw [HDP.out] at hlk; have hB2 := hB1.trans (hb2.mono (by omega)); have d0 : w2.cell? ⟨wr.heap.size, 0, none⟩ = some (.string xn) := cell_keep hb2 (cell_keep hb1 (by simp)); have d1 : w2.cell? ⟨wr.heap.size, 1, none⟩ = some (.string xs) := cell_keep hb2 (cell_keep hb1 (by simp)); have d2 : w2.cell? ⟨wr.heap.size, 2, none⟩ = some (.int .i64 xl) := cell_keep hb2 (cell_keep hb1 (by simp)); have d3 : w2.cell? ⟨wr.heap.size, 3, none⟩ = some (.int .i64 xw) := cell_keep hb2 (cell_keep hb1 (by simp)); have d4 : w2.cell? ⟨wr.heap.size, 4, none⟩ = some (.int .i64 xt) := cell_keep hb2 (cell_keep hb1 (by simp)); have d5 : w2.cell? ⟨wr.heap.size, 5, none⟩ = some (.int .i64 xc) := cell_keep hb2 (cell_keep hb1 (by simp))) | (go_at_call 102; refine (cisName_any xn _ hns).mono ?_; rintro e w1 ⟨rfl, hb1⟩; obtain ⟨hc1, hf1⟩ := bcell hb1; have hz1 := hb1.size; simp at hz1; have HS1 := Lib.hid (((show Seen wr _ _ _ from HS.out).below ((Below.refl _ _).alloc (Nat.le_refl _) _)).below hb1); have hB1 := (hbw.alloc hsz _).trans (hb1.mono (by simp; omega))) | (go_at_call 30; refine (cwithin_any _ _ _ _).mono ?_; rintro e w3 ⟨rfl, rfl⟩))
     go_ret
     exact ⟨ret_int (HNM.out (by simp [h1, h2])).symm, hB2⟩
    ·go_wp2_with (first | (go_at_call 102; have hs1 := HS1.out; clear hs1; refine (cisName_any xs _ hss).mono ?_; rintro e w2 ⟨rfl, hb2⟩; obtain ⟨hc2, hf2⟩ := bcell hb2; have hz2 := hb2.size; have HS2 := Lib.hid ((show Seen w1 _ _ _ from HS1.out).below hb2); have hlk := Seen.run HS2.out xn hns; rw [HDP.out] at hlk; have hB2 := hB1.trans (hb2.mono (by omega)); have d0 : w2.cell? ⟨wr.heap.size, 0, none⟩ = some (.string xn) := cell_keep hb2 (cell_keep hb1 (by simp)); have d1 : w2.cell? ⟨wr.heap.size, 1, none⟩ = some (.string xs) := cell_keep hb2 (cell_keep hb1 (by simp)); have d2 : w2.cell? ⟨wr.heap.size, 2, none⟩ = some (.int .i64 xl) := cell_keep hb2 (cell_keep hb1 (by simp)); have d3 : w2.cell? ⟨wr.heap.size, 3, none⟩ = some (.int .i64 xw) := cell_keep hb2 (cell_keep hb1 (by simp)); have d4 : w2.cell? ⟨wr.heap.size, 4, none⟩ = some (.int .i64 xt) := cell_keep hb2 (cell_keep hb1 (by simp)); have d5 : w2.cell? ⟨wr.heap.size, 5, none⟩ = some (.int .i64 xc) := cell_keep hb2 (cell_keep hb1 (by simp))) | (go_at_call 102; refine (cisName_any xn _ hns).mono ?_; rintro e w1 ⟨rfl, hb1⟩; obtain ⟨hc1, hf1⟩ := bcell hb1; have hz1 := hb1.size; simp at hz1; have HS1 := Lib.hid (((show Seen wr _ _ _ from HS.out).below ((Below.refl _ _).alloc (Nat.le_refl _) _)).below hb1); have hB1 := (hbw.alloc hsz _).trans (hb1.mono (by simp; omega))) | (go_at_call 30; refine (cwithin_any _ _ _ _).mono ?_; rintro e w3 ⟨rfl, rfl⟩))
     go_ret
     exact ⟨ret_int (HDU.out (by simp [h1, h2]) HDP.out).symm, hB2⟩
  ·have hm := Lib.hid (bkGo_end (by omega) HF.out)
   clear HF
   go_wp2_with fail
   go_ret
   exact ⟨ret_int hm.out.symm, hbw⟩
end Go.Proofs.YtjmgboipbhddlaaGreatDoor

set_option linter.unusedVariables false
set_option linter.unusedSimpArgs false
namespace Go.Proofs.YtjmgboipbhddlaaGreatDoor
open Go Go.RowKit Go.Maps Go.WideMaps

theorem checkTrim_any (t : Trim) (w : World) :
    Calls Tryz.prog 73 #[.agg #[.int .i64 t.kerf, .int .i64 t.ends, .int .i64 t.sides]] w fun e w' => e = .returned (.int .i64 (trimE t)) ∧ Below w.heap.size w w' := by
 have i0 : ∀ w, (Instr.index 158 (.agg #[.int .i64 t.kerf, .int .i64 t.ends, .int .i64 t.sides]) (.int .i64 0)).run Tryz.prog w = .ok (.int .i64 t.kerf) w := fun _ => by kernel_rfl
 have i1 : ∀ w, (Instr.index 158 (.agg #[.int .i64 t.kerf, .int .i64 t.ends, .int .i64 t.sides]) (.int .i64 1)).run Tryz.prog w = .ok (.int .i64 t.ends) w := fun _ => by kernel_rfl
 have i2 : ∀ w, (Instr.index 158 (.agg #[.int .i64 t.kerf, .int .i64 t.ends, .int .i64 t.sides]) (.int .i64 2)).run Tryz.prog w = .ok (.int .i64 t.sides) w := fun _ => by kernel_rfl
 go_enter Tryz.func73, Tryz.ntmps73
 go_wp2_with (first
  | (go_at_call 30; refine (cwithin_any _ _ _ _).mono ?_; rintro e w' ⟨rfl, rfl⟩)
  | (with_reducible refine rounds_step ?_)
  | (with_reducible refine wp_loop_rounds 4 ?_))
 all_goals (go_ret; exact ⟨ret_int (by go_tidy; (try simp only [Bool.not_eq_eq_eq_not, Bool.not_true, Bool.not_false, Bool.not_eq_true', Bool.not_eq_false', decide_eq_false_iff_not, decide_eq_true_eq, beq_iff_eq, beq_eq_false_iff_ne, bne_iff_ne, ne_eq, bne_eq_false_iff_eq, Bool.and_eq_true, Bool.or_eq_true, Bool.and_eq_false_iff, Bool.or_eq_false_iff, not_true_eq_false, not_false_eq_true, false_and, and_false, or_false, false_or, true_and, and_true, true_or, or_true] at *) <;> simp [trimE, *]), (Below.refl _ _).alloc (Nat.le_refl _) _⟩)

set_option maxHeartbeats 2000000 in
theorem areaP_e (b : Board) (a : Option Addr) (c : Nat) (w : World) (hv : Rects.V w a b.defects) (hl : b.defects.length ≤ 9223372036854775807) (hw : b.wf) :
    Calls Tryz.prog 20 #[.agg #[.string b.name, .string b.species, .int .i64 b.length, .int .i64 b.width, .int .i64 b.thick, .int .i64 b.cut, .int .i64 b.moisture, .slice a b.defects.length c]] w fun e w' => (∃ n, e = .returned (.tuple #[.int .i64 n, .int .i64 (boardErr b)])) ∧ Below w.heap.size w w' := by
 go_enter Tryz.func20, Tryz.ntmps20
 cases h0 : (boardErr b != 0)
 ·have HE := Lib.hid (show boardErr b = 0 by simpa using h0)
  go_wp2_with (go_at_call 49; refine (checkBoard_any b _ _ _ (hv.keep ((Below.refl _ _).alloc (Nat.le_refl _) _)) hl hw).mono ?_; rintro e w1 ⟨rfl, hb1⟩; obtain ⟨hk1, hf1⟩ := bcell hb1; have hc1 := ((Below.refl w.heap.size w).alloc (Nat.le_refl _) _).trans (hb1.mono (by simp)); have hz1 : w.heap.size < w1.heap.size := (by have := hb1.size; simp at this; omega))
  go_ret2
  exact ⟨⟨_, by rw [HE.out]; rfl⟩, hc1⟩
 ·go_wp2_with (go_at_call 49; refine (checkBoard_any b _ _ _ (hv.keep ((Below.refl _ _).alloc (Nat.le_refl _) _)) hl hw).mono ?_; rintro e w1 ⟨rfl, hb1⟩; have hc1 := ((Below.refl w.heap.size w).alloc (Nat.le_refl _) _).trans (hb1.mono (by simp)))
  go_ret2
  exact ⟨⟨_, rfl⟩, hc1⟩
set_option maxHeartbeats 1000000 in
theorem ccheckBoard_any (b : Board) (a : Option Addr) (c : Nat) (w : World) (hv : Rects.V w a b.defects) (hl : b.defects.length ≤ 9223372036854775807) (hw : b.wf) :
    Calls Tryz.prog 71 #[.agg #[.string b.name, .string b.species, .int .i64 b.length, .int .i64 b.width, .int .i64 b.thick, .int .i64 b.cut, .int .i64 b.moisture, .slice a b.defects.length c]] w fun e w' => e = .returned (.int .i64 (boardErr b)) ∧ Below w.heap.size w w' := by
 go_enter Tryz.func71, Tryz.ntmps71
 go_wp2_with (go_at_call 20; refine (areaP_e b _ _ _ (hv.keep ((Below.refl _ _).alloc (Nat.le_refl _) _)) hl hw).mono ?_; rintro e w1 ⟨⟨n, rfl⟩, hb1⟩; have hc1 := ((Below.refl w.heap.size w).alloc (Nat.le_refl _) _).trans (hb1.mono (by simp)))
 go_ret
 exact ⟨rfl, hc1⟩
end Go.Proofs.YtjmgboipbhddlaaGreatDoor

set_option linter.unusedVariables false
set_option linter.unusedSimpArgs false
namespace Go.Proofs.YtjmgboipbhddlaaGreatDoor
open Go Go.RowKit Go.Maps Go.WideMaps

def jbGo (pre : List ByteArray) : List Board → Int
 | [] => 0
 | b :: r => if boardErr b ≠ 0 then boardErr b else if (pre.any fun t => b.name.toList == t.toList) then 5 else jbGo (pre ++ [b.name]) r
def piecesN : List Blank → Int
 | [] => 0
 | x :: r => x.count + piecesN r
def jobE (j : Job) : Int :=
 if 100 < j.stock.length then 8 else if jbGo [] j.stock ≠ 0 then jbGo [] j.stock
 else if checkBlanksE j.blanks ≠ 0 then checkBlanksE j.blanks else if 1000 < piecesN j.blanks then 8 else trimE j.trim
section
variable {st : List Board} {k : Nat} {e : Int}
theorem jbGo_err (hk : k < st.length) (h : e = jbGo ((st.map (·.name)).take k) (st.drop k)) (h1 : (boardErr st[k] != 0) = true) : e = boardErr st[k] := by
 rw [h, List.drop_eq_getElem_cons hk, jbGo, if_pos (by simpa using h1)]
theorem jbGo_dup (hk : k < st.length) (h : e = jbGo ((st.map (·.name)).take k) (st.drop k)) (h1 : (boardErr st[k] != 0) = false)
    (h2 : (((st.map (·.name)).take k).any fun t => st[k].name.toList == t.toList) = true) : e = 5 := by
 rw [h, List.drop_eq_getElem_cons hk, jbGo, if_neg (by simpa using h1), if_pos h2]
theorem jbGo_next (hk : k < st.length) (h : e = jbGo ((st.map (·.name)).take k) (st.drop k)) (h1 : (boardErr st[k] != 0) = false)
    (h2 : (((st.map (·.name)).take k).any fun t => st[k].name.toList == t.toList) = false) : e = jbGo ((st.map (·.name)).take (k + 1)) (st.drop (k + 1)) := by
 rw [h, List.drop_eq_getElem_cons hk, jbGo, if_neg (by simpa using h1), if_neg (by simp [h2]), take_map_step _ hk]
theorem jbGo_end (hk : st.length ≤ k) (h : e = jbGo ((st.map (·.name)).take k) (st.drop k)) : e = 0 := by
 rw [h, List.drop_eq_nil_of_le hk]; rfl
end
theorem bkGo_ok : ∀ {l : List Blank} {pre : List ByteArray}, bkGo pre l = 0 → ∀ x ∈ l, ((nameB x.name && nameB x.species) = true) ∧ rngB x = true
 | [], _, _, x, hx => absurd hx (by simp)
 | b :: r, pre, h, x, hx => by
  unfold bkGo at h
  split at h
  ·cases h
  ·split at h
   ·cases h
   ·split at h
    ·cases h
    ·rename_i h1 h2 h3
     rcases List.mem_cons.1 hx with rfl | hx
     ·exact ⟨by simpa using h1, by simpa using h3⟩
     ·exact bkGo_ok h x hx
theorem jbGo_ok : ∀ {l : List Board} {pre : List ByteArray}, jbGo pre l = 0 → ∀ x ∈ l, boardErr x = 0
 | [], _, _, x, hx => absurd hx (by simp)
 | b :: r, pre, h, x, hx => by
  unfold jbGo at h
  split at h
  ·rename_i h1; exact absurd h h1
  ·split at h
   ·cases h
   ·rename_i h1 h2
    rcases List.mem_cons.1 hx with rfl | hx
    ·simpa using h1
    ·exact jbGo_ok h x hx
theorem rngB_ok {x : Blank} (h : rngB x = true) : (1 ≤ x.length ∧ x.length ≤ 600000) ∧ (1 ≤ x.width ∧ x.width ≤ 600000) ∧ (1 ≤ x.thick ∧ x.thick ≤ 600000) ∧ (1 ≤ x.count ∧ x.count ≤ 200) := by
 unfold rngB at h
 simp only [Bool.and_eq_true] at h
 exact ⟨withinB_true h.1, withinB_true h.2.1, withinB_true h.2.2.1, withinB_true h.2.2.2⟩
theorem blanksE_ok {l : List Blank} (h : checkBlanksE l = 0) : l.length ≤ 30 ∧ ∀ x ∈ l, ((nameB x.name && nameB x.species) = true) ∧ rngB x = true := by
 unfold checkBlanksE at h
 split at h
 ·cases h
 ·exact ⟨by omega, bkGo_ok h⟩
theorem piecesN_drop {l : List Blank} {k : Nat} (hk : k < l.length) : piecesN (l.drop k) = l[k].count + piecesN (l.drop (k + 1)) := by
 rw [List.drop_eq_getElem_cons hk, piecesN]

theorem Boards.V.at' {w : World} {a : Option Addr} {l : List Board} (h : Boards.V w a l) {k : Nat} (hk : k < l.length) : ∃ b off ad cd, a = some ⟨b, off, none⟩ ∧
    (w.cell? ⟨b, off + k * 8, none⟩ = some (.string l[k].name) ∧ w.cell? ⟨b, off + k * 8 + 1, none⟩ = some (.string l[k].species) ∧ w.cell? ⟨b, off + k * 8 + 2, none⟩ = some (.int .i64 l[k].length) ∧ w.cell? ⟨b, off + k * 8 + 3, none⟩ = some (.int .i64 l[k].width) ∧
     w.cell? ⟨b, off + k * 8 + 4, none⟩ = some (.int .i64 l[k].thick) ∧ w.cell? ⟨b, off + k * 8 + 5, none⟩ = some (.int .i64 l[k].cut) ∧ w.cell? ⟨b, off + k * 8 + 6, none⟩ = some (.int .i64 l[k].moisture) ∧ w.cell? ⟨b, off + k * 8 + 7, none⟩ = some (.slice ad l[k].defects.length cd)) ∧
    Rects.V w ad l[k].defects ∧ l[k].defects.length ≤ 9223372036854775807 ∧ l[k].wf := by
 obtain ⟨b, off, ha, ad, cd, k0, k1, k2, k3, k4, k5, k6, k7, hr, h1, h2, hw⟩ := h.at_ hk
 exact ⟨b, off, ad, cd, ha, ⟨k0, k1, k2, k3, k4, k5, k6, k7⟩, hr, by unfold maxLen at h2; omega, hw⟩

structure JB (W : World) (g : Nat) (j : Job) (a1 : Option Addr) (c1 : Nat) (a2 : Option Addr) (c2 : Nat) : Prop where
 s : W.cell? ⟨g, 0, none⟩ = some (.slice a1 j.stock.length c1)
 b : W.cell? ⟨g, 1, none⟩ = some (.slice a2 j.blanks.length c2)
 k : W.cell? ⟨g, 2, none⟩ = some (.int .i64 j.trim.kerf)
 e : W.cell? ⟨g, 3, none⟩ = some (.int .i64 j.trim.ends)
 d : W.cell? ⟨g, 4, none⟩ = some (.int .i64 j.trim.sides)
theorem JB.keep {W W' : World} {g : Nat} {j : Job} {a1 : Option Addr} {c1 : Nat} {a2 : Option Addr} {c2 : Nat} {B : Nat} (h : JB W g j a1 c1 a2 c2) (hb : Below B W W') (hg : g < B) : JB W' g j a1 c1 a2 c2 := by
 have k := (bcellB hb).1
 exact ⟨by rw [k _ _ hg]; exact h.s, by rw [k _ _ hg]; exact h.b, by rw [k _ _ hg]; exact h.k, by rw [k _ _ hg]; exact h.e, by rw [k _ _ hg]; exact h.d⟩

set_option maxRecDepth 100000 in
set_option maxHeartbeats 8000000 in
theorem checkJobP_any (j : Job) (a1 : Option Addr) (c1 : Nat) (a2 : Option Addr) (c2 : Nat) (w : World) (hs : Boards.V w a1 j.stock) (hsl : j.stock.length ≤ 9223372036854775807) (hb : Blanks.V w a2 j.blanks) (hbl : j.blanks.length ≤ 9223372036854775807) :
    Calls Tryz.prog 44 #[.agg #[.slice a1 j.stock.length c1, .slice a2 j.blanks.length c2, .int .i64 j.trim.kerf, .int .i64 j.trim.ends, .int .i64 j.trim.sides]] w fun e w' => e = .returned (.int .i64 (jobE j)) ∧ Below w.heap.size w w' := by
 by_cases hbig : 100 < j.stock.length
 ·go_enter Tryz.func44, Tryz.ntmps44
  go_wp2_with fail
  go_ret
  exact ⟨ret_int (by simp [jobE, hbig]), (Below.refl _ _).alloc (Nat.le_refl _) _⟩
 have hmm := @run_makeMap Tryz.prog
 have HE := Lib.hid (show jobE j = if jbGo [] j.stock ≠ 0 then jbGo [] j.stock else if checkBlanksE j.blanks ≠ 0 then checkBlanksE j.blanks else if 1000 < piecesN j.blanks then 8 else trimE j.trim by unfold jobE; rw [if_neg hbig])
 have HF := Lib.hid (show jbGo [] j.stock = jbGo ((j.stock.map (·.name)).take 0) (j.stock.drop 0) from rfl)
 go_enter Tryz.func44, Tryz.ntmps44
 go_upto_region 3 with fail
 refine gen_world (fun W => JB W w.heap.size j a1 c1 a2 c2 ∧ Below w.heap.size w W ∧ w.heap.size < W.heap.size) ?_ ?_
 ·exact ⟨⟨by simp, by simp, by simp, by simp, by simp⟩, (Below.refl _ _).alloc (Nat.le_refl _) _, by simp⟩
 rintro W ⟨hJ, hbW, hzW⟩
 have HJ := Lib.hid hJ
 obtain ⟨j0, -⟩ := hJ
 go_wp2_with fail
 clear j0
 go_loopw [19] (fun i wr => ∃ k : Nat, k ≤ j.stock.length ∧ i = .int .i64 k ∧ Hid (jbGo [] j.stock = jbGo ((j.stock.map (·.name)).take k) (j.stock.drop k)) ∧ Hid (Seen wr W.heap.size k ((j.stock.map (·.name)).take k)) ∧ Below W.heap.size W wr ∧ W.heap.size < wr.heap.size) (fun i _ => j.stock.length - (intOf i).toNat)
 case atStart => exact ⟨0, Nat.zero_le _, rfl, HF, Lib.hid (Seen.made W), (Below.refl _ _).alloc (Nat.le_refl _) _, by simp⟩
 case round =>
  clear HF
  obtain ⟨k, hk, rfl, HF, HS, hbw, hzw⟩ := hrel
  have hsz := hbw.size
  have hbw0 := hbW.trans (hbw.mono (Nat.le_of_lt hzW))
  by_cases hlt : k < j.stock.length
  ·obtain ⟨b, off, ad, cd, ha, ⟨c0, c1', c2', c3, c4, c5, c6, c7⟩, hr, hrl, hwf⟩ := (hs.keep hbw0).at' hlt
   subst ha
   have hns := hwf.1
   have hki : (k : Int) < (j.stock.length : Int) := by omega
   have HER := Lib.hid (fun h => jbGo_err hlt HF.out h)
   have HDU := Lib.hid (fun h h' => jbGo_dup hlt HF.out h h')
   have HNX := Lib.hid (fun h h' => jbGo_next hlt HF.out h h')
   have HTK := Lib.hid (show (j.stock.map (·.name)).take (k + 1) = (j.stock.map (·.name)).take k ++ [j.stock[k].name] from take_map_step (·.name) hlt)
   generalize hbd : j.stock[k] = bd at *
   clear hbd HF
   go_wp2_with (first
    | (go_at_call 71; refine (ccheckBoard_any bd _ _ _ (hr.keep ((Below.refl _ _).alloc (Nat.le_refl _) _)) hrl hwf).mono ?_; rintro e w2 ⟨rfl, hb2⟩; obtain ⟨hc, hf⟩ := bcell hb2; have hz := hb2.size; simp at hz; have HS1 := Lib.hid (((show Seen wr _ _ _ from HS.out).below ((Below.refl _ _).alloc (Nat.le_refl _) _)).below hb2); have hlk := Seen.run HS1.out bd.name hns; have hB2 := (hbw.alloc hsz _).trans (hb2.mono (by simp; omega)))
    | (at_mapUpdate; refine wpList_seen rfl _ _ _ rfl W.heap.size k _ bd.name hns (by omega) rfl rfl rfl HS1.out ?_; intro w3 hS3 hg3; have HS3 := Lib.hid hS3; clear hS3))
   ·go_ret
    exact ⟨ret_int (by have h := HER.out (by assumption); rw [HE.out, h, if_pos (by simpa using (by assumption : (boardErr bd != 0) = true))]), hbW.trans (hB2.mono (Nat.le_of_lt hzW))⟩
   ·go_ret
    exact ⟨ret_int (by have h := HDU.out (by assumption) (by assumption); rw [HE.out, h]; rfl), hbW.trans (hB2.mono (Nat.le_of_lt hzW))⟩
   ·have hS3 := HS3.out
    rw [← HTK.out] at hS3
    go_roundw
    case rel => exact ⟨k + 1, by omega, by go_num, Lib.hid (HNX.out (by assumption) (by assumption)), Lib.hid hS3, hB2.grown hg3 (by omega) (fun j hj => by cases hj; omega), by have := hg3.size; omega⟩
    case measure => simp [intOf]; omega
  ·have hm := Lib.hid (jbGo_end (by omega) HF.out)
   clear HF HS
   obtain ⟨j0, j1, j2, j3, j4⟩ := HJ.out.keep hbw hzW
   have HBV := Lib.hid (hb.keep hbw0)
   have HB0 := Lib.hid hbw0
   have HE1 := Lib.hid (show jobE j = if checkBlanksE j.blanks ≠ 0 then checkBlanksE j.blanks else if 1000 < piecesN j.blanks then 8 else trimE j.trim by rw [HE.out, hm.out]; rfl)
   have hzr : w.heap.size < wr.heap.size := by omega
   clear HE hm HJ hbw hbw0 hzw hsz hzW hbW
   by_cases hq : checkBlanksE j.blanks = 0
   ·have hq' : (checkBlanksE j.blanks != 0) = false := by simp [hq]
    have HE2 := Lib.hid (show jobE j = if 1000 < piecesN j.blanks then 8 else trimE j.trim by rw [HE1.out, if_neg (by simp [hq])])
    obtain ⟨hl30, hall⟩ := blanksE_ok hq
    have HCT := Lib.hid (fun x hx => (rngB_ok (hall x hx).2).2.2.2)
    clear hq hall HE1
    go_upto_region 17 with (go_at_call 72; refine (checkBlanksP_any a2 j.blanks c2 _ HBV.out hbl).mono ?_; rintro e w2 ⟨rfl, hb2⟩; have HB2 := Lib.hid hb2; clear hb2)
    have hJ2 := (JB.mk j0 j1 j2 j3 j4).keep HB2.out (by omega)
    have hBB := HB0.out.trans (HB2.out.mono (by omega))
    have hz2 := HB2.out.size
    clear j0 j1 j2 j3 j4
    obtain ⟨j0, j1, j2, j3, j4⟩ := id hJ2
    have HBL := Lib.hid (hb.keep hBB)
    have HB3 := Lib.hid hBB
    have hz3 : w.heap.size < w2.heap.size := by omega
    clear hBB HBV HB0 HB2 hzr hz2
    go_wp2_with fail
    clear j0 j1 j2 j3 j4
    have HJ2 := Lib.hid hJ2
    clear hJ2
    go_loopw [8, 45] (fun p i wr => ∃ (m : Nat) (P : Int), m ≤ j.blanks.length ∧ i = .int .i64 m ∧ p = .int .i64 P ∧ (0 ≤ P ∧ P ≤ 200 * (m : Int)) ∧ Hid (piecesN j.blanks = P + piecesN (j.blanks.drop m)) ∧ Below w2.heap.size w2 wr) (fun _ i _ => j.blanks.length - (intOf i).toNat)
    case atStart => exact ⟨0, 0, Nat.zero_le _, rfl, rfl, by simp, Lib.hid (by simp), Below.refl _ _⟩
    case round =>
     obtain ⟨m, P, hm, rfl, rfl, hP, HPS, hbr⟩ := hrel
     have hszr := hbr.size
     have hbr0 := HB3.out.trans (hbr.mono (Nat.le_of_lt hz3))
     by_cases hlt2 : m < j.blanks.length
     ·obtain ⟨b, off, ha, hat⟩ := (hb.keep hbr0).at_ hlt2
      subst ha
      obtain ⟨c0, c1', c2', c3, c4, c5, -⟩ := hat
      have hct := HCT.out _ (List.getElem_mem hlt2)
      have hmi : (m : Int) < (j.blanks.length : Int) := by omega
      have HPN := Lib.hid (show piecesN j.blanks = (P + j.blanks[m].count) + piecesN (j.blanks.drop (m + 1)) by rw [HPS.out, piecesN_drop hlt2, Int.add_assoc])
      clear HPS
      generalize j.blanks[m] = xb at *
      have v1 : IntKind.i64.wrap (P + xb.count) = P + xb.count := IntWalk.i64_in _ (by omega)
      go_wp2_with fail
      go_roundw
      case rel => exact ⟨m + 1, P + xb.count, by omega, by go_num, rfl, by omega, HPN, hbr.alloc hszr _⟩
      case measure => simp [intOf]; omega
     ·have HPE := Lib.hid (show piecesN j.blanks = P by rw [HPS.out, List.drop_of_length_le (by omega)]; simp [piecesN])
      have hP2 : P ≤ 6000 := by omega
      clear HPS
      obtain ⟨j0, j1, j2, j3, j4⟩ := HJ2.out.keep hbr hz3
      by_cases hbig2 : 1000 < P
      ·have HE3 := Lib.hid (show jobE j = 8 by rw [HE2.out, HPE.out, if_pos hbig2])
       go_wp2_with fail
       go_ret
       exact ⟨ret_int HE3.out.symm, hbr0⟩
      ·have HE3 := Lib.hid (show jobE j = trimE j.trim by rw [HE2.out, HPE.out, if_neg hbig2])
       have HBR := Lib.hid hbr0
       go_wp2_with (go_at_call 73; refine (checkTrim_any j.trim _).mono ?_; rintro e w5 ⟨rfl, hb5⟩; have HB5 := Lib.hid hb5; clear hb5)
       go_ret
       exact ⟨ret_int HE3.out.symm, HBR.out.trans (HB5.out.mono (by omega))⟩
   ·have hq' : (checkBlanksE j.blanks != 0) = true := by simp [hq]
    have HE2 := Lib.hid (show jobE j = checkBlanksE j.blanks by rw [HE1.out, if_pos hq])
    clear hq HE1
    go_wp2_with (go_at_call 72; refine (checkBlanksP_any a2 j.blanks c2 _ HBV.out hbl).mono ?_; rintro e w2 ⟨rfl, hb2⟩; have HB2 := Lib.hid hb2; clear hb2)
    go_ret
    exact ⟨ret_int HE2.out.symm, HB0.out.trans (HB2.out.mono (by omega))⟩
end Go.Proofs.YtjmgboipbhddlaaGreatDoor
