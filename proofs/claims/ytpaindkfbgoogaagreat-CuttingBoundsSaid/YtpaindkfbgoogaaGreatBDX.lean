/- The species of blanks, each once: on both sides. -/
import Derived.Test.YtpaindkfbgoogaaGreatRR
import Derived.Test.YtpaindkfbgoogaaGreatCH1
import Derived.Test.YtpaindkfbgoogaaGreatQU
set_option linter.unusedVariables false
set_option linter.unusedSimpArgs false
namespace Go.Proofs.YtpaindkfbgoogaaGreat
open Go Go.RowKit Go.Sort Go.Lib

def TxV (w : World) (a : Option Addr) (l : List ByteArray) : Prop := l ≠ [] → ∃ b off, a = some ⟨b, off, none⟩ ∧ ∀ k x, l[k]? = some x → w.cell? ⟨b, off + k, none⟩ = some (.string x)
theorem txV_keep {w w' : World} {a : Option Addr} {l : List ByteArray} (h : TxV w a l) (hb : Below w.heap.size w w') : TxV w' a l := by
  intro hne
  obtain ⟨b, off, ha, hx⟩ := h hne
  exact ⟨b, off, ha, fun k x hk => cell_keep hb (hx k x hk)⟩
theorem own_some8 {w : World} {base e k n : Nat} {v : Value} {xs : List Value} (h : w.ownsRow base e k v n xs) (hn : 0 < n) : ∃ g cap, v = .slice (some ⟨g, 0, none⟩) n cap ∧ base ≤ g ∧ g < w.heap.size := by
  rcases h.2 with ⟨rfl, h0⟩ | ⟨g, cap, cur, rfl, hb, hg, _⟩
  · omega
  · exact ⟨g, cap, rfl, hb, (Array.getElem?_eq_some_iff.1 hg).1⟩
theorem own_txV {w : World} {base e n c : Nat} {a : Option Addr} {l : List ByteArray} (h : w.ownsRow base e 1 (.slice a n c) n (l.map Value.string)) : TxV w a l := by
  intro hne
  have hn : l.length = n := by have := h.1; simpa using this
  obtain ⟨g, cp, hv, -, -⟩  := own_some8 h (by have := List.length_pos_iff.2 hne; omega)
  injection hv with e1 _ e3
  subst e1; subst e3
  refine ⟨g, 0, rfl, fun k x hk => ?_⟩
  have := h.cells (g := g) rfl k (.string x) (by simp [hk])
  rwa [addr_add] at this
theorem string_info : (Tryz.prog.info? 9).map (fun i => (i.zero, i.size, i.bytes)) = some (some (.string ⟨#[]⟩), 1, 16) := by kernel_rfl
def hasS (l : List ByteArray) (s : ByteArray) : Bool := l.any fun x => x.toList == s.toList
def kindsTo (l : List Blank) : Nat → List ByteArray
  | 0 => []
  | k + 1 => if hasS (kindsTo l k) (bl l k).species = true then kindsTo l k else kindsTo l k ++ [(bl l k).species]
def kindsM (l : List Blank) : List ByteArray := kindsTo l l.length
def KindsPost (w : World) (L : List ByteArray) (e : Ending) (w' : World) : Prop := ∃ (av : Option Addr) (cv : Nat), e = .returned (.slice av L.length cv) ∧ TxV w' av L ∧ Below w.heap.size w w'
theorem kindsTo_len (l : List Blank) : ∀ k, (kindsTo l k).length ≤ k
  | 0 => Nat.le_refl _
  | k + 1 => by
    have := kindsTo_len l k
    rw [kindsTo]
    split
    · omega
    · simp; omega
theorem bl_get {l : List Blank} {k : Nat} (h : k < l.length) : bl l k = l[k] := by unfold bl; rw [List.getD_eq_getElem?_getD, List.getElem?_eq_getElem h]; rfl
set_option maxHeartbeats 1000000 in
theorem hasText_any (a : Option Addr) (l : List ByteArray) (c : Nat) (s : ByteArray) (w : World) (hv : TxV w a l) (hl : l.length ≤ 1000000) :
    Calls Tryz.prog 66 #[.slice a l.length c, .string s] w fun e w' => e = .returned (.bool (hasS l s)) ∧ Below w.heap.size w w' := by
  obtain ⟨S, hS⟩ : ∃ S, S = hasS l s := ⟨_, rfl⟩
  have HS := Lib.hid (show S = l.any fun x => x.toList == s.toList from hS)
  rw [← hS]
  clear hS
  go_enter Tryz.func66, Tryz.ntmps66
  go_wp2_with fail
  go_loopw [5] (fun iv wr => ∃ k : Nat, k ≤ l.length ∧ iv = .int .i64 k ∧ Hid (∀ j (hj : j < l.length), j < k → (l[j].toList == s.toList) = false) ∧ Below w.heap.size w wr) (fun iv _ => l.length - (intOf iv).toNat)
  case atStart => exact ⟨0, Nat.zero_le _, rfl, Lib.hid (fun j _ h => by omega), Below.refl _ _⟩
  case round =>
    obtain ⟨k, hk, rfl, HK, hb⟩ := hrel
    have HB := Lib.hid hb
    by_cases hlt : k < l.length
    · obtain ⟨b, off, ha, hx⟩ := hv (by intro e; subst e; simp at hlt)
      subst ha
      have c0 := cell_keep hb (hx k _ (List.getElem?_eq_getElem hlt))
      have hki : (k : Int) < (l.length : Int) := by omega
      have v1 : IntKind.i64.wrap ((k : Int) + 1) = (k : Int) + 1 := IntWalk.i64_in _ (by omega)
      have HN := Lib.hid (fun h => none_step (p := fun x : ByteArray => x.toList == s.toList) HK.out hlt h)
      have HY := Lib.hid (show (l[k].toList == s.toList) = true → S = true from fun h => by rw [HS.out]; exact List.any_eq_true.2 ⟨l[k], List.getElem_mem hlt, h⟩)
      clear hx hb
      generalize l[k] = x at *
      cases hq : (x.toList == s.toList)
      · go_wp2_with fail
        go_roundw
        case rel => exact ⟨k + 1, by omega, by go_num, Lib.hid (HN.out hq), HB.out⟩
        case measure => first | (simp [intOf]; done) | (simp [intOf]; omega)
      · have hA := HY.out hq
        go_wp2_with fail
        go_ret
        exact ⟨ret_bool hA.symm, HB.out⟩
    · obtain rfl : k = l.length := by omega
      have hki : ¬ ((l.length : Nat) : Int) < ((l.length : Nat) : Int) := by omega
      have HM := Lib.hid (show S = false by rw [HS.out]; exact List.any_eq_false.2 fun x hx => by obtain ⟨j, hj, rfl⟩ := List.mem_iff_getElem.1 hx; rw [HK.out j hj (by omega)]; simp)
      clear HK
      go_wp2_with fail
      go_ret
      exact ⟨ret_bool HM.out.symm, HB.out⟩
theorem beq_swap (x s : ByteArray) : (s.toList == x.toList) = (x.toList == s.toList) := by rw [Bool.eq_iff_iff, beq_iff_eq, beq_iff_eq]; exact eq_comm
set_option maxHeartbeats 1000000 in
theorem indexS_any (a : Option Addr) (l : List ByteArray) (c : Nat) (s : ByteArray) (w : World) (hv : TxV w a l) (hl : l.length ≤ 1000000) :
    Calls Tryz.prog 93 #[.slice a l.length c, .string s] w fun e w' => e = .returned (.int .i64 (idxOf (fun x => s.toList == x.toList) l)) ∧ Below w.heap.size w w' := by
  go_enter Tryz.func93, Tryz.ntmps93
  go_wp2_with fail
  go_loopw [8] (fun i wr => ∃ k : Nat, k ≤ l.length ∧ i = .int .i64 k ∧ Hid (∀ j (hj : j < l.length), j < k → (s.toList == l[j].toList) = false) ∧ Below w.heap.size w wr) (fun i _ => l.length - (intOf i).toNat)
  case atStart => exact ⟨0, Nat.zero_le _, rfl, Lib.hid (fun j _ h => by omega), Below.refl _ _⟩
  case round =>
    obtain ⟨k, hk, rfl, HK, hb⟩ := hrel
    have HB := Lib.hid hb
    by_cases hlt : k < l.length
    · obtain ⟨b, off, ha, hx⟩ := hv (by intro e; subst e; simp at hlt)
      subst ha
      have c0 := cell_keep hb (hx k _ (List.getElem?_eq_getElem hlt))
      have hki : (k : Int) < (l.length : Int) := by omega
      have v1 : IntKind.i64.wrap ((k : Int) + 1) = (k : Int) + 1 := IntWalk.i64_in _ (by omega)
      have HH := Lib.hid (fun h => idxOf_hit (p := fun x : ByteArray => s.toList == x.toList) hlt HK.out h)
      have HN := Lib.hid (fun h => none_step (p := fun x : ByteArray => s.toList == x.toList) HK.out hlt h)
      clear hx hb
      generalize l[k] = x at *
      cases hq : (s.toList == x.toList)
      · go_wp2_with fail
        go_round
        case rel => exact ⟨k + 1, by omega, by go_num, Lib.hid (HN.out hq), HB.out⟩
        case measure => simp [intOf]; omega
      · go_wp2_with fail
        go_ret
        exact ⟨ret_int (HH.out hq).symm, HB.out⟩
    · have hm := Lib.hid (idxOf_miss (p := fun x : ByteArray => s.toList == x.toList) (l := l) (fun j hj => HK.out j hj (by omega)))
      have hki : ¬ (k : Int) < (l.length : Int) := by omega
      clear HK
      go_wp2_with fail
      go_ret
      exact ⟨ret_int hm.out.symm, HB.out⟩
theorem containsS_any (a : Option Addr) (l : List ByteArray) (c : Nat) (s : ByteArray) (w : World) (hv : TxV w a l) (hl : l.length ≤ 1000000) :
    Calls Tryz.prog 55 #[.slice a l.length c, .string s] w fun e w' => e = .returned (.bool (hasS l s)) ∧ Below w.heap.size w w' := by
  have hi := Lib.hid (show decide (0 ≤ idxOf (fun x : ByteArray => s.toList == x.toList) l) = hasS l s by rw [idxOf_bool]; unfold hasS; rw [show (fun x : ByteArray => s.toList == x.toList) = (fun x : ByteArray => x.toList == s.toList) from funext fun x => beq_swap x s])
  have HI := Lib.hid (fun w => indexS_any a l c s w)
  generalize idxOf (fun x : ByteArray => s.toList == x.toList) l = I at *
  go_enter Tryz.func55, Tryz.ntmps55
  go_wp2_with (go_at_call 93; refine (HI.out _ hv hl).mono ?_; rintro e w1 ⟨rfl, hb⟩)
  go_ret
  exact ⟨ret_bool (by rw [← hi.out]), hb⟩
set_option maxRecDepth 100000 in
set_option maxHeartbeats 4000000 in
theorem kindsR_any (a : Option Addr) (l : List Blank) (c : Nat) (w : World) (hv : Blanks.V w a l) (hl : l.length ≤ 1000) :
    Calls Tryz.prog 36 #[.slice a l.length c] w (KindsPost w (kindsM l)) := by
  obtain ⟨i0, hi0, hz0, hz1, hz2⟩ := info_parts string_info
  have HV := Lib.hid hv
  clear hv
  go_enter Tryz.func36, Tryz.ntmps36
  go_wp2_with fail
  go_loopw [3, 4] (fun v iv wr => ∃ (k : Nat) (xs : List ByteArray), k ≤ l.length ∧ iv = .int .i64 k ∧ Hid (xs = kindsTo l k) ∧ Hid (wr.ownsRow w.heap.size 9 1 v xs.length (xs.map Value.string)) ∧ Below w.heap.size w wr) (fun _ iv _ => l.length - (intOf iv).toNat)
  case atStart => exact ⟨0, [], Nat.zero_le _, rfl, Lib.hid rfl, Lib.hid (World.ownsRow_nil _ _ _ _), Below.refl _ _⟩
  case round =>
    obtain ⟨k, xs, hk, rfl, HX, HO, hb⟩ := hrel
    have hxk : xs.length ≤ k := by rw [HX.out]; exact kindsTo_len l k
    obtain ⟨av, cv, rfl, -, -⟩ := own_slice HO.out
    have HB := Lib.hid hb
    have hzw := hb.size
    by_cases hlt : k < l.length
    · obtain ⟨b, off, ha, hx⟩ := (HV.out.keep hb).at_ hlt
      obtain ⟨s0, s1, s2, s3, s4, s5, -⟩ := hx
      subst ha
      have hki : (k : Int) < (l.length : Int) := by omega
      have v1 : IntKind.i64.wrap ((k : Int) + 1) = (k : Int) + 1 := IntWalk.i64_in _ (by omega)
      have HS := Lib.hid s1
      have HK1 := Lib.hid (show kindsTo l (k + 1) = if hasS xs l[k].species = true then xs else xs ++ [l[k].species] by rw [kindsTo, bl_get hlt, ← HX.out])
      generalize l[k].species = sp at *
      have HHT := Lib.hid (fun w2 h => hasText_any av xs cv sp w2 h (by omega))
      cases hq : hasS xs sp
      · rw [hq] at HHT HK1
        have HK2 := Lib.hid (show xs ++ [sp] = kindsTo l (k + 1) by rw [HK1.out]; rfl)
        go_upto_region 6 with (go_at_call 66; refine (HHT.out _ (own_txV HO.out)).mono ?_; rintro e w2 ⟨rfl, hb2⟩; have HB2 := Lib.hid hb2; clear hb2)
        have HO2 := Lib.hid (own_keep HO.out HB2.out)
        have s1 := cell_keep HB2.out HS.out
        have hzz := HB2.out.size
        clear hb s0 s2 s3 s4 s5
        go_wp2_with (at_builtin; refine wpList_append_here _ rfl _ _ 82 rfl w.heap.size 9 i0 (.string ⟨#[]⟩) 1 16 Tryz.underlying82 hi0 hz0 hz1 hz2 rfl (by decide) _ xs.length _ rfl (own_keep HO2.out ((Below.refl _ _).alloc (Nat.le_refl _) _)) ⟨w2.heap.size, 0, none⟩ 1 1 [.string sp] rfl rfl (news_of [.string sp] _ _ _ rfl) (by intro u hu; rw [List.mem_singleton.1 hu]; rfl) (by decide) (by simp only [maxLen]; omega) (by omega) (by simp; omega) ?_; intro v8 w8 ho8 hg8 hv8; have HO8 := Lib.hid ho8; have HG8 := Lib.hid hg8; clear ho8 hg8 hv8)
        go_roundw
        case rel =>
          refine ⟨k + 1, xs ++ [sp], by omega, by go_num, HK2, Lib.hid ?_, ?_⟩
          · rw [List.length_append, List.map_append]; exact HO8.out
          · exact (((HB.out.trans (HB2.out.mono HB.out.size))).alloc (by omega) _).grown HG8.out (by simp; omega) (fun q hq => own_base HO.out hq)
        case measure => first | (simp [intOf]; done) | (simp [intOf]; omega)
      · rw [hq] at HHT HK1
        have HK2 := Lib.hid (show xs = kindsTo l (k + 1) by rw [HK1.out]; rfl)
        go_wp2_with (go_at_call 66; refine (HHT.out _ (own_txV HO.out)).mono ?_; rintro e w2 ⟨rfl, hb2⟩; have HB2 := Lib.hid hb2; clear hb2)
        have HO2 := Lib.hid (own_keep HO.out HB2.out)
        go_roundw
        case rel => exact ⟨k + 1, xs, by omega, by go_num, HK2, HO2, HB.out.trans (HB2.out.mono HB.out.size)⟩
        case measure => first | (simp [intOf]; done) | (simp [intOf]; omega)
    · obtain rfl : k = l.length := by omega
      have hki : ¬ ((l.length : Nat) : Int) < ((l.length : Nat) : Int) := by omega
      have HXK := Lib.hid (show xs = kindsM l from HX.out)
      go_wp2_with fail
      go_ret
      refine ⟨av, cv, ?_, ?_, HB.out⟩
      · rw [← HXK.out]; rfl
      · rw [← HXK.out]; exact own_txV HO.out
set_option maxRecDepth 100000 in
set_option maxHeartbeats 4000000 in
theorem kindsP_any (a : Option Addr) (l : List Blank) (c : Nat) (w : World) (hv : Blanks.V w a l) (hl : l.length ≤ 1000) :
    Calls Tryz.prog 29 #[.slice a l.length c] w (KindsPost w (kindsM l)) := by
  obtain ⟨i0, hi0, hz0, hz1, hz2⟩ := info_parts string_info
  have HV := Lib.hid hv
  clear hv
  go_enter Tryz.func29, Tryz.ntmps29
  go_wp2_with fail
  go_loopw [3, 8] (fun v iv wr => ∃ (k : Nat) (xs : List ByteArray), k ≤ l.length ∧ iv = .int .i64 k ∧ Hid (xs = kindsTo l k) ∧ Hid (wr.ownsRow w.heap.size 9 1 v xs.length (xs.map Value.string)) ∧ Below w.heap.size w wr) (fun _ iv _ => l.length - (intOf iv).toNat)
  case atStart => exact ⟨0, [], Nat.zero_le _, rfl, Lib.hid rfl, Lib.hid (World.ownsRow_nil _ _ _ _), Below.refl _ _⟩
  case round =>
    obtain ⟨k, xs, hk, rfl, HX, HO, hb⟩ := hrel
    have hxk : xs.length ≤ k := by rw [HX.out]; exact kindsTo_len l k
    obtain ⟨av, cv, rfl, -, -⟩ := own_slice HO.out
    have HB := Lib.hid hb
    have hzw := hb.size
    by_cases hlt : k < l.length
    · obtain ⟨b, off, ha, hx⟩ := (HV.out.keep hb).at_ hlt
      obtain ⟨s0, s1, s2, s3, s4, s5, -⟩ := hx
      subst ha
      have hki : (k : Int) < (l.length : Int) := by omega
      have v1 : IntKind.i64.wrap ((k : Int) + 1) = (k : Int) + 1 := IntWalk.i64_in _ (by omega)
      have HK1 := Lib.hid (show kindsTo l (k + 1) = if hasS xs l[k].species = true then xs else xs ++ [l[k].species] by rw [kindsTo, bl_get hlt, ← HX.out])
      generalize l[k] = x at *
      go_upto_region 5 with fail
      refine gen_world (fun W1 => W1.cell? ⟨wr.heap.size, 1, none⟩ = some (.string x.species) ∧ Below wr.heap.size wr W1) ⟨by simp [go_sem], by repeat (first | (with_reducible assumption) | exact Below.refl _ _ | (refine Below.setCell ?_ (by first | omega | (simp; omega) | (simp; done)) _) | (refine Below.alloc ?_ (by first | omega | (simp; omega) | (simp; done)) _) | (refine Below.drew ?_))⟩ ?_
      rintro W1 ⟨t1, hb1⟩
      have HO1 := Lib.hid (own_keep HO.out hb1)
      have HB1 := Lib.hid (HB.out.trans (hb1.mono HB.out.size))
      have hzs := hb1.size
      generalize wr.heap.size = g5 at *
      generalize x.species = sp at *
      clear hb s0 s1 s2 s3 s4 s5 hb1
      have HHT := Lib.hid (fun w2 h => containsS_any av xs cv sp w2 h (by omega))
      cases hq : hasS xs sp
      · rw [hq] at HHT HK1
        have HK2 := Lib.hid (show xs ++ [sp] = kindsTo l (k + 1) by rw [HK1.out]; rfl)
        go_upto_region 6 with (go_at_call 55; refine (HHT.out _ (own_txV HO1.out)).mono ?_; rintro e w2 ⟨rfl, hb2⟩; have t2 := cell_keep hb2 t1; have HO2 := Lib.hid (own_keep HO1.out hb2); have HB2 := Lib.hid (HB1.out.trans (hb2.mono HB1.out.size)); clear hb2)
        have hzz := HB2.out.size
        go_wp2_with (at_builtin; refine wpList_append_here _ rfl _ _ 82 rfl w.heap.size 9 i0 (.string ⟨#[]⟩) 1 16 Tryz.underlying82 hi0 hz0 hz1 hz2 rfl (by decide) _ xs.length _ rfl (own_keep HO2.out ((Below.refl _ _).alloc (Nat.le_refl _) _)) ⟨w2.heap.size, 0, none⟩ 1 1 [.string sp] rfl rfl (news_of [.string sp] _ _ _ rfl) (by intro u hu; rw [List.mem_singleton.1 hu]; rfl) (by decide) (by simp only [maxLen]; omega) (by omega) (by simp; omega) ?_; intro v8 w8 ho8 hg8 hv8; have HO8 := Lib.hid ho8; have HG8 := Lib.hid hg8; clear ho8 hg8 hv8)
        go_roundw
        case rel =>
          refine ⟨k + 1, xs ++ [sp], by omega, by go_num, HK2, Lib.hid ?_, ?_⟩
          · rw [List.length_append, List.map_append]; exact HO8.out
          · exact (HB2.out.alloc HB2.out.size _).grown HG8.out (by simp; omega) (fun q hq => own_base HO2.out hq)
        case measure => first | (simp [intOf]; done) | (simp [intOf]; omega)
      · rw [hq] at HHT HK1
        have HK2 := Lib.hid (show xs = kindsTo l (k + 1) by rw [HK1.out]; rfl)
        go_wp2_with (go_at_call 55; refine (HHT.out _ (own_txV HO1.out)).mono ?_; rintro e w2 ⟨rfl, hb2⟩; have HO2 := Lib.hid (own_keep HO1.out hb2); have HB2 := Lib.hid (HB1.out.trans (hb2.mono HB1.out.size)); clear hb2)
        go_roundw
        case rel => exact ⟨k + 1, xs, by omega, by go_num, HK2, HO2, HB2.out⟩
        case measure => first | (simp [intOf]; done) | (simp [intOf]; omega)
    · obtain rfl : k = l.length := by omega
      have hki : ¬ ((l.length : Nat) : Int) < ((l.length : Nat) : Int) := by omega
      have HXK := Lib.hid (show xs = kindsM l from HX.out)
      go_wp2_with fail
      go_ret
      refine ⟨av, cv, ?_, ?_, HB.out⟩
      · rw [← HXK.out]; rfl
      · rw [← HXK.out]; exact own_txV HO.out
end Go.Proofs.YtpaindkfbgoogaaGreat
/- Sums of weights: over the least common denominator as over a common one (plain). -/
set_option linter.unusedVariables false
set_option linter.unusedSimpArgs false
namespace Go.Proofs.YtpaindkfbgoogaaGreat

/-! Sums of weights: over the least common denominator as over a common one. -/
def comD (k size : Nat) : Nat := if k = 0 then size else k * (k + 1)
theorem comD_pos {k size : Nat} (h : 1 ≤ size) : 1 ≤ comD k size := by
  unfold comD
  split
  · exact h
  · exact Nat.mul_pos (by omega) (by omega)
theorem comD_le {k size : Nat} (hk : k ≤ 20) (h2 : size ≤ 610000) : comD k size ≤ 610000 := by
  unfold comD
  split
  · exact h2
  · have := Nat.mul_le_mul hk (show k + 1 ≤ 21 by omega)
    omega
theorem wuD_dvd {k a d : Nat} (hd : 1 ≤ d) : wuD k a d ∣ comD k d := by
  unfold wuD comD lowQ wtN wtD
  by_cases hk : k = 0
  · subst hk
    simp only [Nat.lt_irrefl, false_and, if_false, if_true]
    exact Nat.div_dvd_of_dvd (Nat.gcd_dvd_right _ _)
  · rw [if_neg hk]
    by_cases hr : (k + 1) * a % d ≠ 0
    · rw [if_pos ⟨by omega, hr⟩, if_pos ⟨by omega, hr⟩]
      exact Nat.dvd_trans (Nat.div_dvd_of_dvd (Nat.gcd_dvd_right _ _)) (Nat.dvd_mul_right _ _)
    · rw [if_neg (fun h => hr h.2), if_neg (fun h => hr h.2)]
      have hr' : (k + 1) * a % d = 0 := by omega
      refine Nat.dvd_trans ?_ (Nat.dvd_mul_left (k + 1) k)
      have hg : 0 < Nat.gcd a d := Nat.gcd_pos_of_pos_right _ hd
      have hc : Nat.Coprime (d / Nat.gcd a d) (a / Nat.gcd a d) := (Nat.coprime_div_gcd_div_gcd hg).symm
      refine hc.dvd_of_dvd_mul_right ?_
      have h1 : d ∣ (k + 1) * a := Nat.dvd_of_mod_eq_zero hr'
      obtain ⟨a', ha⟩ := Nat.gcd_dvd_left a d
      obtain ⟨d', hd'⟩ := Nat.gcd_dvd_right a d
      generalize Nat.gcd a d = g at *
      subst ha
      subst hd'
      rw [Nat.mul_div_cancel_left _ hg, Nat.mul_div_cancel_left _ hg]
      have h2 : g * d' ∣ g * ((k + 1) * a') := by rw [show g * ((k + 1) * a') = (k + 1) * (g * a') by ac_rfl]; exact h1
      exact Nat.dvd_of_mul_dvd_mul_left hg h2
def lcmP (a b : Nat) : Nat := a / Nat.gcd a b * b
theorem lcmP_eq (a b : Nat) : lcmP a b = Nat.lcm a b := by
  unfold lcmP Nat.lcm
  rw [Nat.div_mul_right_comm (Nat.gcd_dvd_left a b)]
theorem lcmP_left (a b : Nat) : a ∣ lcmP a b := by rw [lcmP_eq]; exact Nat.dvd_lcm_left a b
theorem lcmP_right (a b : Nat) : b ∣ lcmP a b := by rw [lcmP_eq]; exact Nat.dvd_lcm_right a b
theorem lcmP_dvd {a b c : Nat} (h1 : a ∣ c) (h2 : b ∣ c) : lcmP a b ∣ c := by rw [lcmP_eq]; exact Nat.lcm_dvd h1 h2
theorem lcmP_pos {a b : Nat} (h1 : 1 ≤ a) (h2 : 1 ≤ b) : 1 ≤ lcmP a b := by rw [lcmP_eq]; exact Nat.lcm_pos h1 h2
def ceilN (n d : Nat) : Nat := (n + d - 1) / d
theorem ceilN_le {n d c : Nat} (hd : 1 ≤ d) : ceilN n d ≤ c ↔ n ≤ c * d := by
  unfold ceilN
  rw [← Nat.lt_succ_iff, Nat.div_lt_iff_lt_mul (by omega), Nat.succ_mul]
  omega
theorem ceilN_eq {n1 d1 n2 d2 : Nat} (h1 : 1 ≤ d1) (h2 : 1 ≤ d2) (h : n1 * d2 = n2 * d1) : ceilN n1 d1 = ceilN n2 d2 := by
  have key : ∀ {n1 d1 n2 d2 : Nat}, 1 ≤ d1 → 1 ≤ d2 → n1 * d2 = n2 * d1 → ceilN n1 d1 ≤ ceilN n2 d2 := by
    intro n1 d1 n2 d2 h1 h2 h
    rw [ceilN_le h1]
    have h3 : n2 ≤ ceilN n2 d2 * d2 := (ceilN_le h2).1 (Nat.le_refl _)
    generalize ceilN n2 d2 = c at *
    have h4 : n1 * d2 ≤ c * d1 * d2 := by
      rw [h, show c * d1 * d2 = c * d2 * d1 by ac_rfl]
      exact Nat.mul_le_mul_right _ h3
    exact Nat.le_of_mul_le_mul_right h4 (by omega)
  exact Nat.le_antisymm (key h1 h2 h) (key h2 h1 h.symm)
/-- One blank's fraction: in lowest terms, and as the product of its sides' ones; how many it stands for. -/
structure Wt where
  p : Nat
  q : Nat
  u : Nat
  v : Nat
  c : Nat
structure Wt.ok (x : Wt) : Prop where
  q : 1 ≤ x.q
  v : 1 ≤ x.v
  eq : x.p * x.v = x.q * x.u
  le : x.u ≤ x.v
theorem Wt.ok.dvd {x : Wt} (h : x.ok) (hc : Nat.Coprime x.p x.q) : x.q ∣ x.v := by
  have h1 : x.q ∣ x.p * x.v := by rw [h.eq]; exact Nat.dvd_mul_right _ _
  exact hc.symm.dvd_of_dvd_mul_left h1
def denL : Nat → List Wt → Nat
  | d, [] => d
  | d, x :: l => denL (lcmP d x.q) l
def numP (D : Nat) : List Wt → Nat
  | [] => 0
  | x :: l => x.p * (D / x.q) * x.c + numP D l
def numR (D : Nat) : List Wt → Nat
  | [] => 0
  | x :: l => x.c * x.u * (D / x.v) + numR D l
theorem denL_dvd {C : Nat} : ∀ {l : List Wt} {d : Nat}, d ∣ C → (∀ x ∈ l, x.q ∣ C) → denL d l ∣ C
  | [], d, h, _ => h
  | x :: l, d, h, hl => by
    rw [denL]
    exact denL_dvd (l := l) (d := lcmP d x.q) (lcmP_dvd h (hl x (by simp))) fun y hy => hl y (by simp [hy])
theorem denL_mul : ∀ {l : List Wt} {d : Nat}, d ∣ denL d l ∧ ∀ x ∈ l, x.q ∣ denL d l
  | [], d => ⟨Nat.dvd_refl _, by simp⟩
  | x :: l, d => by
    obtain ⟨h1, h2⟩ := denL_mul (l := l) (d := lcmP d x.q)
    rw [denL]
    refine ⟨Nat.dvd_trans (lcmP_left _ _) h1, fun y hy => ?_⟩
    rcases List.mem_cons.1 hy with rfl | hy
    · exact Nat.dvd_trans (lcmP_right _ _) h1
    · exact h2 y hy
theorem denL_pos : ∀ {l : List Wt} {d : Nat}, 1 ≤ d → (∀ x ∈ l, 1 ≤ x.q) → 1 ≤ denL d l
  | [], d, h, _ => h
  | x :: l, d, h, hl => by
    rw [denL]
    exact denL_pos (l := l) (d := lcmP d x.q) (lcmP_pos h (hl x (by simp))) fun y hy => hl y (by simp [hy])
theorem num_same {D C : Nat} : ∀ {l : List Wt}, (∀ x ∈ l, x.ok ∧ x.q ∣ D ∧ x.v ∣ C) → numP D l * C = numR C l * D
  | [], _ => by simp [numP, numR]
  | x :: l, h => by
    obtain ⟨ho, ⟨a, ha⟩, b, hb⟩ := h x (by simp)
    have ih := num_same (D := D) (C := C) (l := l) fun y hy => h y (by simp [hy])
    rw [numP, numR, Nat.add_mul, Nat.add_mul, ih]
    congr 1
    have e1 : D / x.q = a := by rw [ha, Nat.mul_div_cancel_left _ ho.q]
    have e2 : C / x.v = b := by rw [hb, Nat.mul_div_cancel_left _ ho.v]
    rw [e1, e2, ha, hb]
    calc x.p * a * x.c * (x.v * b) = (x.p * x.v) * (a * x.c * b) := by ac_rfl
      _ = (x.q * x.u) * (a * x.c * b) := by rw [ho.eq]
      _ = x.c * x.u * b * (x.q * a) := by ac_rfl
/-- **The program's bound of a species is the document's.** -/
theorem bound_same {l : List Wt} {C : Nat} (hC : 1 ≤ C) (h : ∀ x ∈ l, x.ok ∧ Nat.Coprime x.p x.q ∧ x.v ∣ C) : ceilN (numP (denL 1 l) l) (denL 1 l) = ceilN (numR C l) C := by
  refine ceilN_eq (denL_pos (Nat.le_refl _) fun x hx => (h x hx).1.q) hC (num_same fun x hx => ⟨(h x hx).1, denL_mul.2 x hx, (h x hx).2.2⟩)
theorem denL_le {l : List Wt} {C : Nat} (hC : 1 ≤ C) (h : ∀ x ∈ l, x.ok ∧ Nat.Coprime x.p x.q ∧ x.v ∣ C) : denL 1 l ≤ C :=
  Nat.le_of_dvd hC (denL_dvd (Nat.one_dvd _) fun x hx => Nat.dvd_trans ((h x hx).1.dvd (h x hx).2.1) (h x hx).2.2)
theorem denL_app {x : Wt} : ∀ {l : List Wt} {d : Nat}, denL d (l ++ [x]) = lcmP (denL d l) x.q
  | [], d => rfl
  | y :: l, d => by rw [List.cons_append, denL, denL_app, denL]
theorem numP_app {D : Nat} {x : Wt} : ∀ {l : List Wt}, numP D (l ++ [x]) = numP D l + x.p * (D / x.q) * x.c
  | [] => by simp [numP]
  | y :: l => by rw [List.cons_append, numP, numP_app, numP]; omega
theorem numR_app {D : Nat} {x : Wt} : ∀ {l : List Wt}, numR D (l ++ [x]) = numR D l + x.c * x.u * (D / x.v)
  | [] => by simp [numR]
  | y :: l => by rw [List.cons_append, numR, numR_app, numR]; omega
theorem numP_bd {D : Nat} : ∀ {l : List Wt}, (∀ x ∈ l, x.ok ∧ x.q ∣ D ∧ x.c ≤ 200) → numP D l ≤ l.length * (200 * D)
  | [], _ => by simp [numP]
  | x :: l, h => by
    obtain ⟨ho, ⟨a, ha⟩, hc⟩ := h x (by simp)
    have ih := numP_bd (D := D) (l := l) fun y hy => h y (by simp [hy])
    rw [numP, List.length_cons, Nat.succ_mul]
    have e1 : D / x.q = a := by rw [ha, Nat.mul_div_cancel_left _ ho.q]
    have hp : x.p ≤ x.q := by
      have h1 : x.p * x.v ≤ x.q * x.v := by rw [ho.eq]; exact Nat.mul_le_mul_left _ ho.le
      exact Nat.le_of_mul_le_mul_right h1 ho.v
    have h2 : x.p * (D / x.q) ≤ D := by rw [e1]; rw [ha]; exact Nat.mul_le_mul_right _ hp
    have h3 : x.p * (D / x.q) * x.c ≤ D * 200 := Nat.mul_le_mul h2 hc
    omega
theorem numR_bd {D : Nat} : ∀ {l : List Wt}, (∀ x ∈ l, x.ok ∧ x.v ∣ D ∧ x.c ≤ 200) → numR D l ≤ l.length * (200 * D)
  | [], _ => by simp [numR]
  | x :: l, h => by
    obtain ⟨ho, ⟨a, ha⟩, hc⟩ := h x (by simp)
    have ih := numR_bd (D := D) (l := l) fun y hy => h y (by simp [hy])
    rw [numR, List.length_cons, Nat.succ_mul]
    have e1 : D / x.v = a := by rw [ha, Nat.mul_div_cancel_left _ ho.v]
    have h2 : x.u * (D / x.v) ≤ D := by rw [e1]; rw [ha]; exact Nat.mul_le_mul_right _ ho.le
    have h3 : x.c * (x.u * (D / x.v)) ≤ 200 * D := Nat.mul_le_mul hc h2
    rw [Nat.mul_assoc]
    omega
end Go.Proofs.YtpaindkfbgoogaaGreat
/- The bound of weights, of the program. -/
set_option linter.unusedVariables false
set_option linter.unusedSimpArgs false
namespace Go.Proofs.YtpaindkfbgoogaaGreat
open Go Go.RowKit Go.Sort Go.Lib

theorem roomTo_congr {j : Job} {s t : ByteArray} (h : (s.toList == t.toList) = true) : ∀ k, roomTo j s k = roomTo j t k
  | 0 => rfl
  | k + 1 => by
    have e : s.toList = t.toList := by simpa using h
    rw [roomTo, roomTo, roomTo_congr h k, e]
theorem roomM_congr {j : Job} {s t : ByteArray} (h : (s.toList == t.toList) = true) : roomM j s = roomM j t := roomTo_congr h _
/-- A number that all denominators of weights of a species divide. -/
def comS (j : Job) (n0 n1 : Nat) (sp : ByteArray) : Nat := comD n0 ((roomM j sp).1 + j.trim.kerf).toNat * comD n1 ((roomM j sp).2 + j.trim.kerf).toNat
def wtOf (j : Job) (n0 n1 : Nat) (x : Blank) : Wt := ⟨lowP (wfN j n0 n1 x) (wfD j n0 n1 x), lowQ (wfN j n0 n1 x) (wfD j n0 n1 x), wfN j n0 n1 x, wfD j n0 n1 x, x.count.toNat⟩
theorem low_ok {u v c : Nat} (hv : 1 ≤ v) (hu : u ≤ v) : (Wt.mk (lowP u v) (lowQ u v) u v c).ok ∧ Nat.Coprime (lowP u v) (lowQ u v) := by
  have hg : 0 < Nat.gcd u v := Nat.gcd_pos_of_pos_right _ hv
  refine ⟨⟨lowB_pos hv, hv, ?_, hu⟩, Nat.coprime_div_gcd_div_gcd hg⟩
  show lowP u v * v = lowQ u v * u
  unfold lowP lowQ
  obtain ⟨a, ha⟩ := Nat.gcd_dvd_left u v
  obtain ⟨b, hb⟩ := Nat.gcd_dvd_right u v
  generalize Nat.gcd u v = g at *
  subst ha
  subst hb
  rw [Nat.mul_div_cancel_left _ hg, Nat.mul_div_cancel_left _ hg]
  ac_rfl
theorem wu_le {k a d : Nat} (hk : k ≤ 20) (h1 : 1 ≤ d) (h2 : d ≤ 1000000) (h3 : a ≤ d) : wuN k a d ≤ wuD k a d ∧ 1 ≤ wuD k a d := by
  obtain ⟨q1, q2, q3⟩ := wt_bds hk h1 h2 h3
  exact ⟨Nat.div_le_div_right q1, lowB_pos q2⟩
theorem rooms_bd {j : Job} (hJ : JobOk j.stock j.blanks j.trim) (sp : ByteArray) : ((roomM j sp).1 + j.trim.kerf).toNat ≤ 610000 ∧ ((roomM j sp).2 + j.trim.kerf).toNat ≤ 610000 := by
  have h := roomTo_rng hJ sp j.stock.length (Nat.le_refl _)
  have ht := hJ.trim
  unfold roomM
  omega
theorem wt_ok {j : Job} {n0 n1 : Nat} {x : Blank} (hJ : JobOk j.stock j.blanks j.trim) (hx : x ∈ j.blanks) (hf : fitsP j x) (h0 : n0 ≤ 20) (h1 : n1 ≤ 20) :
    (wtOf j n0 n1 x).ok ∧ Nat.Coprime (wtOf j n0 n1 x).p (wtOf j n0 n1 x).q ∧ (wtOf j n0 n1 x).v ∣ comS j n0 n1 x.species ∧ (wtOf j n0 n1 x).c ≤ 200 := by
  have hw := hJ.want x hx
  have ht := hJ.trim
  obtain ⟨r1, r2⟩ := rooms_bd hJ x.species
  unfold fitsP at hf
  have a1 : szA j x ≤ rmA j x ∧ 1 ≤ rmA j x ∧ rmA j x ≤ 1000000 := by unfold szA rmA; omega
  have a2 : szB j x ≤ rmB j x ∧ 1 ≤ rmB j x ∧ rmB j x ≤ 1000000 := by unfold szB rmB; omega
  obtain ⟨p1, p2⟩ := wu_le h0 a1.2.1 a1.2.2 a1.1
  obtain ⟨q1, q2⟩ := wu_le h1 a2.2.1 a2.2.2 a2.1
  obtain ⟨k1, k2⟩ := low_ok (c := x.count.toNat) (show 1 ≤ wfD j n0 n1 x from Nat.mul_pos p2 q2) (show wfN j n0 n1 x ≤ wfD j n0 n1 x from Nat.mul_le_mul p1 q1)
  exact ⟨k1, k2, Nat.mul_dvd_mul (wuD_dvd a1.2.1) (wuD_dvd a2.2.1), by show x.count.toNat ≤ 200; omega⟩
def kindIs (sp : ByteArray) (x : Blank) : Bool := x.species.toList == sp.toList
def wtsTo (j : Job) (n0 n1 : Nat) (sp : ByteArray) (k : Nat) : List Wt := ((j.blanks.take k).filter (kindIs sp)).map (wtOf j n0 n1)
def wtsM (j : Job) (n0 n1 : Nat) (sp : ByteArray) : List Wt := wtsTo j n0 n1 sp j.blanks.length
theorem wtsTo_yes {j : Job} {n0 n1 : Nat} {sp : ByteArray} {k : Nat} (hk : k < j.blanks.length) (h : (j.blanks[k].species.toList == sp.toList) = true) : wtsTo j n0 n1 sp (k + 1) = wtsTo j n0 n1 sp k ++ [wtOf j n0 n1 j.blanks[k]] := by
  unfold wtsTo
  rw [List.take_succ_eq_append_getElem hk, List.filter_append, List.map_append]
  congr 1
  rw [List.filter_cons, if_pos (show kindIs sp j.blanks[k] = true from h)]
  rfl
theorem wtsTo_no {j : Job} {n0 n1 : Nat} {sp : ByteArray} {k : Nat} (hk : k < j.blanks.length) (h : (j.blanks[k].species.toList == sp.toList) = false) : wtsTo j n0 n1 sp (k + 1) = wtsTo j n0 n1 sp k := by
  unfold wtsTo
  rw [List.take_succ_eq_append_getElem hk, List.filter_append, List.filter_cons, if_neg (by unfold kindIs; simp [h]), List.filter_nil, List.append_nil]
theorem wtsTo_ok {j : Job} {n0 n1 : Nat} {sp : ByteArray} (hJ : JobOk j.stock j.blanks j.trim) (hf : ∀ x ∈ j.blanks, fitsP j x) (h0 : n0 ≤ 20) (h1 : n1 ≤ 20) (k : Nat) :
    (∀ w ∈ wtsTo j n0 n1 sp k, w.ok ∧ Nat.Coprime w.p w.q ∧ w.v ∣ comS j n0 n1 sp ∧ w.c ≤ 200) ∧ (wtsTo j n0 n1 sp k).length ≤ 30 := by
  unfold wtsTo
  constructor
  · intro w hw
    obtain ⟨x, hx, rfl⟩ := List.mem_map.1 hw
    obtain ⟨hx1, hx2⟩ := List.mem_filter.1 hx
    have hm := List.mem_of_mem_take hx1
    have h := wt_ok hJ hm (hf x hm) h0 h1
    refine ⟨h.1, h.2.1, ?_, h.2.2.2⟩
    have := h.2.2.1
    unfold comS at this ⊢
    rwa [roomM_congr (j := j) hx2] at this
  · rw [List.length_map]
    have h1 := List.length_filter_le (kindIs sp) (j.blanks.take k)
    have h2 := List.length_take_le k j.blanks
    have h3 := List.length_take_le' k j.blanks
    have := hJ.lenB
    omega
/-- The bound of one species. -/
def bndS (j : Job) (n0 n1 : Nat) (sp : ByteArray) : Nat := ceilN (numP (denL 1 (wtsM j n0 n1 sp)) (wtsM j n0 n1 sp)) (denL 1 (wtsM j n0 n1 sp))
def bndTo (j : Job) (n0 n1 : Nat) : List ByteArray → Nat
  | [] => 0
  | s :: l => bndS j n0 n1 s + bndTo j n0 n1 l
theorem bndTo_app {j : Job} {n0 n1 : Nat} {s : ByteArray} : ∀ {l : List ByteArray}, bndTo j n0 n1 (l ++ [s]) = bndTo j n0 n1 l + bndS j n0 n1 s
  | [] => by simp [bndTo]
  | y :: l => by rw [List.cons_append, bndTo, bndTo_app, bndTo]; omega
def bndM (j : Job) (n0 n1 : Nat) : Nat := bndTo j n0 n1 (kindsM j.blanks)
theorem comS_bd {j : Job} {n0 n1 : Nat} {sp : ByteArray} (hJ : JobOk j.stock j.blanks j.trim) (h0 : n0 ≤ 20) (h1 : n1 ≤ 20) : comS j n0 n1 sp ≤ 372100000000 := by
  obtain ⟨r1, r2⟩ := rooms_bd hJ sp
  exact Nat.mul_le_mul (comD_le h0 r1) (comD_le h1 r2)
/-- A species that some blank has has room. -/
theorem comS_pos {j : Job} {n0 n1 : Nat} {sp : ByteArray} {x : Blank} (hJ : JobOk j.stock j.blanks j.trim) (hx : x ∈ j.blanks) (hf : fitsP j x) (h : (x.species.toList == sp.toList) = true) : 1 ≤ comS j n0 n1 sp := by
  have hw := hJ.want x hx
  have ht := hJ.trim
  unfold fitsP at hf
  rw [roomM_congr (j := j) h] at hf
  exact Nat.mul_pos (comD_pos (by omega)) (comD_pos (by omega))
theorem kinds_from {l : List Blank} : ∀ {k : Nat} {sp : ByteArray}, k ≤ l.length → sp ∈ kindsTo l k → ∃ x ∈ l, x.species = sp
  | 0, sp, _, h => by cases h
  | k + 1, sp, hk, h => by
    rw [kindsTo] at h
    split at h
    · exact kinds_from (by omega) h
    · rcases List.mem_append.1 h with h | h
      · exact kinds_from (by omega) h
      · rw [List.mem_singleton] at h
        subst h
        rw [bl_get (by omega)]
        exact ⟨_, List.getElem_mem _, rfl⟩
theorem bndS_bd {j : Job} {n0 n1 : Nat} {sp : ByteArray} (hJ : JobOk j.stock j.blanks j.trim) (hf : ∀ x ∈ j.blanks, fitsP j x) (h0 : n0 ≤ 20) (h1 : n1 ≤ 20) : bndS j n0 n1 sp ≤ 6000 := by
  obtain ⟨hw, hl⟩ := wtsTo_ok (sp := sp) hJ hf h0 h1 j.blanks.length
  have hd : 1 ≤ denL 1 (wtsM j n0 n1 sp) := denL_pos (Nat.le_refl _) fun x hx => (hw x hx).1.q
  have hb : numP (denL 1 (wtsM j n0 n1 sp)) (wtsM j n0 n1 sp) ≤ (wtsM j n0 n1 sp).length * (200 * denL 1 (wtsM j n0 n1 sp)) := numP_bd fun x hx => ⟨(hw x hx).1, denL_mul.2 x hx, (hw x hx).2.2.2⟩
  unfold bndS
  rw [ceilN_le hd]
  refine Nat.le_trans hb ?_
  rw [← Nat.mul_assoc]
  exact Nat.mul_le_mul_right _ (by have : (wtsM j n0 n1 sp).length ≤ 30 := hl; omega)
theorem bndTo_bd {j : Job} {n0 n1 : Nat} (hJ : JobOk j.stock j.blanks j.trim) (hf : ∀ x ∈ j.blanks, fitsP j x) (h0 : n0 ≤ 20) (h1 : n1 ≤ 20) : ∀ l : List ByteArray, bndTo j n0 n1 l ≤ l.length * 6000
  | [] => by simp [bndTo]
  | s :: l => by
    have h := bndTo_bd hJ hf h0 h1 l
    have := bndS_bd (sp := s) hJ hf h0 h1
    rw [bndTo, List.length_cons, Nat.succ_mul]
    omega
set_option maxHeartbeats 1000000 in
theorem lcm_any (a b : Nat) (w : World) (h1 : 1 ≤ a) (h2 : 1 ≤ b) (h3 : a ≤ 1000000000000) (h4 : b ≤ 1000000000000) (h5 : lcmP a b ≤ 1000000000000) :
    Calls Tryz.prog 30 #[.int .i64 (a : Int), .int .i64 (b : Int)] w fun e w' => e = .returned (.int .i64 ((lcmP a b : Nat) : Int)) ∧ Below w.heap.size w w' := by
  have hg : 1 ≤ Nat.gcd a b := Nat.gcd_pos_of_pos_left _ h1
  have HG := Lib.hid (fun w => cgcd_any a b w h3 h4)
  have HD := Lib.hid (show (a : Int) / ((Nat.gcd a b : Nat) : Int) = ((a / Nat.gcd a b : Nat) : Int) from (Int.natCast_ediv _ _).symm)
  have hq := Nat.div_le_self a (Nat.gcd a b)
  obtain ⟨L, hL⟩ : ∃ L, L = lcmP a b := ⟨_, rfl⟩
  have HL := Lib.hid (show ((a / Nat.gcd a b : Nat) : Int) * (b : Int) = (L : Int) by rw [hL]; unfold lcmP; push_cast; rfl)
  rw [← hL] at h5 ⊢
  generalize a / Nat.gcd a b = q at *
  generalize Nat.gcd a b = g at *
  have hd := HD.out
  have hm := HL.out
  have g0 : ¬ g = 0 := by omega
  have g1 : ¬ (g : Int) = 0 := by omega
  have v1 : IntKind.i64.wrap (q : Int) = (q : Int) := IntWalk.i64_in _ (by omega)
  have v2 : IntKind.i64.wrap (L : Int) = (L : Int) := IntWalk.i64_in _ (by omega)
  clear hL
  go_enter Tryz.func30, Tryz.ntmps30
  go_wp2_with (go_at_call 54; refine (HG.out _).mono ?_; rintro e w1 ⟨rfl, hb⟩)
  go_ret
  exact ⟨rfl, by first | exact hb | exact hb.drew⟩
end Go.Proofs.YtpaindkfbgoogaaGreat
/- The bound of weights, of the program: the walk. -/
set_option linter.unusedVariables false
set_option linter.unusedSimpArgs false
namespace Go.Proofs.YtpaindkfbgoogaaGreat
open Go Go.RowKit Go.Sort Go.Lib

def bndV (j : Job) (k0 k1 : Int) : Int := if weightsE j k0 k1 = 0 then ((bndM j k0.toNat k1.toNat : Nat) : Int) else 0
theorem weightsE_all {j : Job} {k0 k1 : Int} (h : weightsE j k0 k1 = 0) : jobE j = 0 ∧ ((0 ≤ k0 ∧ k0 ≤ 20) ∧ (0 ≤ k1 ∧ k1 ≤ 20)) ∧ ∀ x ∈ j.blanks, fitsP j x := by
  unfold weightsE at h
  split at h
  · rename_i h1; exact absurd h h1
  · rename_i h1
    split at h
    · cases h
    · rename_i h2
      split at h
      · rename_i h3; exact ⟨Decidable.not_not.1 h1, Decidable.not_not.1 h2, h3⟩
      · cases h
theorem TxV.at_ {w : World} {a : Option Addr} {l : List ByteArray} (h : TxV w a l) {k : Nat} (hk : k < l.length) : ∃ b off, a = some ⟨b, off, none⟩ ∧ w.cell? ⟨b, off + k, none⟩ = some (.string l[k]) := by
  obtain ⟨b, off, ha, hx⟩ := h (by intro e; subst e; simp at hk)
  exact ⟨b, off, ha, hx k _ (List.getElem?_eq_getElem hk)⟩
/-- What a blank's fraction says. -/
theorem wfr_wt (j : Job) (n0 n1 : Nat) (x : Blank) : (wfr j n0 n1 x).num = (((wtOf j n0 n1 x).p : Nat) : Int) ∧ (wfr j n0 n1 x).den = (((wtOf j n0 n1 x).q : Nat) : Int) := ⟨rfl, rfl⟩
set_option maxRecDepth 100000 in
set_option maxHeartbeats 16000000 in
theorem boundP_any (j : Job) (a1 : Option Addr) (c1 : Nat) (a2 : Option Addr) (c2 : Nat) (k0 k1 : Int) (w : World) (hs : Boards.V w a1 j.stock) (hsl : j.stock.length ≤ 9223372036854775807) (hb : Blanks.V w a2 j.blanks) (hbl : j.blanks.length ≤ 9223372036854775807) :
    Calls Tryz.prog 8 #[.agg #[.slice a1 j.stock.length c1, .slice a2 j.blanks.length c2, .int .i64 j.trim.kerf, .int .i64 j.trim.ends, .int .i64 j.trim.sides], .agg #[.int .i64 k0, .int .i64 k1]] w fun e w' => e = .returned (.tuple #[.int .i64 (bndV j k0 k1), .int .i64 (weightsE j k0 k1)]) ∧ Below w.heap.size w w' := by
  have HVS := Lib.hid hs
  have HVB := Lib.hid hb
  have HWT := Lib.hid (fun w9 hs hb => weightsP_any j a1 c1 a2 c2 k0 k1 w9 hs hsl hb hbl)
  have HBV := Lib.hid (show bndV j k0 k1 = if weightsE j k0 k1 = 0 then ((bndM j k0.toNat k1.toNat : Nat) : Int) else 0 from rfl)
  have HFT := Lib.hid (fun h => weightsE_all (j := j) (k0 := k0) (k1 := k1) h)
  generalize bndV j k0 k1 = BV at *
  obtain ⟨F, hF⟩ : ∃ F, weightsE j k0 k1 = F := ⟨_, rfl⟩
  rw [hF] at HWT HFT HBV ⊢
  clear hF hs hb
  go_enter Tryz.func8, Tryz.ntmps8
  go_upto_region 1 with fail
  refine gen_world (fun W => JB W w.heap.size j a1 c1 a2 c2 ∧ (W.cell? ⟨w.heap.size + 1, 0, none⟩ = some (.int .i64 k0) ∧ W.cell? ⟨w.heap.size + 1, 1, none⟩ = some (.int .i64 k1)) ∧ Below w.heap.size w W ∧ w.heap.size + 1 < W.heap.size) ⟨⟨by simp [go_sem], by simp [go_sem], by simp [go_sem], by simp [go_sem], by simp [go_sem]⟩, ⟨by simp [go_sem], by simp [go_sem]⟩, by repeat (first | (with_reducible assumption) | exact Below.refl _ _ | (refine Below.setCell ?_ (by first | omega | (simp; omega) | (simp; done)) _) | (refine Below.alloc ?_ (by first | omega | (simp; omega) | (simp; done)) _) | (refine Below.drew ?_)), by simp⟩ ?_
  rintro W ⟨hC, hY, hbW, hzW⟩
  obtain ⟨gj, hgj⟩ : ∃ g, g = w.heap.size := ⟨_, rfl⟩
  obtain ⟨gk, hgk⟩ : ∃ g, g = w.heap.size + 1 := ⟨_, rfl⟩
  rw [← hgk] at hY hzW
  rw [← hgj] at hC
  rw [← hgk, ← hgj]
  have hzG : gj < W.heap.size := by omega
  have HC := Lib.hid hC
  have HBW := Lib.hid (show Below w.heap.size w W from by first | exact hbW | (rw [hgj] at hbW; exact hbW))
  obtain ⟨q0, q1, q2, q3, q4⟩ := hC
  obtain ⟨y0, y1⟩ := hY
  clear hbW hgj hgk hzW
  go_upto_region 2 with (go_at_call 7; refine (HWT.out _ (HVS.out.keep HBW.out) (HVB.out.keep HBW.out)).mono ?_; rintro e w1 ⟨a7, n7, c7, rfl, hb, h6, h7⟩; have HB1 := Lib.hid (HBW.out.trans (hb.mono HBW.out.size)); have HC1 := Lib.hid (HC.out.keep hb hzG); have hz7 := hb.size; have HE8 := Lib.hid h7; clear hb h6 h7)
  have hz1 : gj < w1.heap.size := by omega
  clear q0 q1 q2 q3 q4 HC HBW hz7 hzG HWT y0 y1
  by_cases hF0 : ¬ F = 0
  · have hne := bne_t5 hF0
    have HB0 := Lib.hid (show BV = 0 by rw [HBV.out, if_neg hF0])
    go_wp2_with fail
    go_ret2
    exact ⟨by rw [HB0.out]; rfl, HB1.out⟩
  obtain rfl : F = 0 := Decidable.not_not.1 hF0
  clear hF0
  obtain ⟨hn7, hv7⟩ := HE8.out (by first | trivial | rfl)
  obtain ⟨hej, ⟨hk0, hk1⟩, hfit⟩ := HFT.out rfl
  have HB0 := Lib.hid (show BV = ((bndM j k0.toNat k1.toNat : Nat) : Int) by rw [HBV.out, if_pos rfl])
  obtain ⟨n0, hn0⟩ : ∃ n : Nat, k0 = n := ⟨k0.toNat, by omega⟩
  obtain ⟨n1, hn1⟩ : ∃ n : Nat, k1 = n := ⟨k1.toNat, by omega⟩
  subst hn0 hn1
  simp only [Int.toNat_natCast] at HB0 hv7 hn7
  have h20 : n0 ≤ 20 := by omega
  have h21 : n1 ≤ 20 := by omega
  have hlm : (j.blanks.map (wfr j n0 n1)).length = j.blanks.length := List.length_map ..
  rw [hlm] at hn7
  subst hn7
  have HLM := Lib.hid hlm
  have HJO := Lib.hid (jobOk_of hej)
  have HFI := Lib.hid hfit
  have HF7 := Lib.hid hv7
  have HVB1 := Lib.hid (HVB.out.keep HB1.out)
  have hlb := HJO.out.lenB
  clear hej hfit hv7 HFT HE8 HBV hk0 hk1 hlm
  have HKD := Lib.hid (fun w9 h => kindsP_any a2 j.blanks c2 w9 h (by omega))
  have HBT := Lib.hid (show bndM j n0 n1 = bndTo j n0 n1 (kindsM j.blanks) from rfl)
  have HKL := Lib.hid (kindsTo_len j.blanks j.blanks.length)
  have HKF := Lib.hid (fun sp (h : sp ∈ kindsM j.blanks) => kinds_from (l := j.blanks) (Nat.le_refl _) h)
  have hkl : (kindsM j.blanks).length ≤ 30 := by have := HKL.out; unfold kindsM; omega
  generalize kindsM j.blanks = K at *
  obtain ⟨q0, q1, q2, q3, q4⟩ := HC1.out
  go_upto_region 6 with (go_at_call 29; refine (HKD.out _ HVB1.out).mono ?_; rintro e w2 ⟨av, cv, rfl, hkv, hb⟩; have HKV := Lib.hid hkv; have HB2 := Lib.hid (HB1.out.trans (hb.mono HB1.out.size)); have HC2 := Lib.hid (HC1.out.keep hb hz1); have HF8 := Lib.hid (HF7.out.keep hb); have hz2' := hb.size; clear hb hkv)
  clear q0 q1 q2 q3 q4 HC1 HB1 HF7 HVB1 HKD HKL
  have hz2 : gj < w2.heap.size := by omega
  clear hz2' hz1
  have HVB2 := Lib.hid (HVB.out.keep HB2.out)
  go_wp2_with fail
  go_loopw [8, 30] (fun sv iv wr => ∃ m : Nat, m ≤ K.length ∧ iv = .int .i64 m ∧ sv = .int .i64 ((bndTo j n0 n1 (K.take m) : Nat) : Int) ∧ Below w2.heap.size w2 wr) (fun _ iv _ => K.length - (intOf iv).toNat)
  case atStart => exact ⟨0, Nat.zero_le _, rfl, rfl, Below.refl _ _⟩
  case round =>
    obtain ⟨m, hm, rfl, rfl, hbr⟩ := hrel
    obtain ⟨wo, rfl⟩ : ∃ wo : World, wo = wr := ⟨_, rfl⟩
    have HBO := Lib.hid hbr
    have HCO := Lib.hid (HC2.out.keep hbr hz2)
    have hzo : gj < wo.heap.size := Nat.lt_of_lt_of_le hz2 hbr.size
    by_cases hlt : m < K.length
    · have hki : (m : Int) < (K.length : Int) := by omega
      obtain ⟨kb, ko, rfl, kc⟩ := (txV_keep HKV.out hbr).at_ hlt
      have HTK := Lib.hid (show bndTo j n0 n1 (K.take (m + 1)) = bndTo j n0 n1 (K.take m) + bndS j n0 n1 K[m] by rw [List.take_succ_eq_append_getElem hlt, bndTo_app])
      have HSP := Lib.hid (HKF.out _ (List.getElem_mem hlt))
      have hbm := bndTo_bd HJO.out HFI.out h20 h21 (K.take m)
      have hbs := bndS_bd (sp := K[m]) HJO.out HFI.out h20 h21
      have htl := List.length_take_le' m K
      have HBF := Lib.hid (HF8.out.keep hbr)
      have HBV := Lib.hid (HVB2.out.keep hbr)
      generalize K[m] = sp at *
      have HW := Lib.hid (fun k => wtsTo_ok (sp := sp) HJO.out HFI.out h20 h21 k)
      have HC0 := Lib.hid (comS_bd (sp := sp) HJO.out h20 h21)
      have HCP := Lib.hid (show 1 ≤ comS j n0 n1 sp from by
        obtain ⟨x, hx, hxs⟩ := HSP.out
        exact comS_pos HJO.out hx (HFI.out x hx) (by rw [hxs]; simp))
      have HDL := Lib.hid (fun k => show 1 ≤ denL 1 (wtsTo j n0 n1 sp k) ∧ denL 1 (wtsTo j n0 n1 sp k) ≤ 372100000000 from
        ⟨denL_pos (Nat.le_refl _) fun x hx => ((HW.out k).1 x hx).1.q, Nat.le_trans (denL_le HCP.out fun x hx => ⟨((HW.out k).1 x hx).1, ((HW.out k).1 x hx).2.1, ((HW.out k).1 x hx).2.2.1⟩) HC0.out⟩)
      obtain ⟨S0, hS0⟩ : ∃ S, S = bndTo j n0 n1 (K.take m) := ⟨_, rfl⟩
      rw [← hS0] at HTK hbm ⊢
      clear hS0
      clear hbr
      obtain ⟨q0, q1, q2, q3, q4⟩ := HCO.out
      go_upto_region 10 with fail
      clear q0 q1 q2 q3 q4 kc
      go_wp2_with fail
      go_loopw [11, 37] (fun dv iv wr => ∃ k : Nat, k ≤ j.blanks.length ∧ iv = .int .i64 k ∧ dv = .int .i64 ((denL 1 (wtsTo j n0 n1 sp k) : Nat) : Int) ∧ Below wo.heap.size wo wr) (fun _ iv _ => j.blanks.length - (intOf iv).toNat)
      case atStart => exact ⟨0, Nat.zero_le _, rfl, rfl, Below.refl _ _⟩
      case round =>
        obtain ⟨k, hk, rfl, rfl, hbi⟩ := hrel
        have HBI := Lib.hid hbi
        obtain ⟨wi, rfl⟩ : ∃ wi : World, wi = wr := ⟨_, rfl⟩
        by_cases hlt2 : k < j.blanks.length
        · have hki2 : (k : Int) < (j.blanks.length : Int) := by omega
          obtain ⟨bb, bo, rfl, bx⟩ := (HBV.out.keep hbi).at_ hlt2
          obtain ⟨s0, s1, s2, s3, s4, s5, -⟩ := bx
          have HYS := Lib.hid (fun h => wtsTo_yes (n0 := n0) (n1 := n1) (sp := sp) hlt2 h)
          have HNO := Lib.hid (fun h => wtsTo_no (n0 := n0) (n1 := n1) (sp := sp) hlt2 h)
          have hdk := HDL.out k
          have hdk1 := HDL.out (k + 1)
          have HWK := Lib.hid (HW.out (k + 1))
          obtain ⟨fb, fo, rfl, f0, f1⟩ := (HBF.out.keep hbi).at_ (show k < (j.blanks.map (wfr j n0 n1)).length by rw [HLM.out]; exact hlt2)
          rw [List.getElem_map] at f0 f1
          rw [(wfr_wt j n0 n1 j.blanks[k]).2] at f1
          obtain ⟨wt, hwt⟩ : ∃ t, t = wtOf j n0 n1 j.blanks[k] := ⟨_, rfl⟩
          rw [← hwt] at f1 HYS
          generalize j.blanks[k] = x at *
          clear f0 hwt
          go_upto_region 12 with fail
          refine gen_world (fun W1 => W1.cell? ⟨wi.heap.size, 1, none⟩ = some (.string x.species) ∧ Below wi.heap.size wi W1) ⟨by simp [go_sem], by repeat (first | (with_reducible assumption) | exact Below.refl _ _ | (refine Below.setCell ?_ (by first | omega | (simp; omega) | (simp; done)) _) | (refine Below.alloc ?_ (by first | omega | (simp; omega) | (simp; done)) _) | (refine Below.drew ?_))⟩ ?_
          rintro W1 ⟨t1, hb1⟩
          have f1 := cell_keep hb1 f1
          have HBX := Lib.hid (HBI.out.trans (hb1.mono HBI.out.size))
          have hzs := hb1.size
          obtain ⟨g13, hg13⟩ : ∃ g, g = wi.heap.size := ⟨_, rfl⟩
          rw [← hg13] at t1 ⊢
          have hfl := block_lt_of_cell f1
          simp only at hfl
          clear s0 s1 s2 s3 s4 s5 hb1 hg13 hbi
          cases hsp : (x.species.toList == sp.toList)
          · have HS2 := Lib.hid (HNO.out hsp)
            go_wp2_with fail
            go_roundw
            case rel => exact ⟨k + 1, by omega, by go_num, by rw [HS2.out], HBX.out⟩
            case measure => first | (simp [intOf]; done) | (simp [intOf]; omega)
          · have HS2 := Lib.hid (HYS.out hsp)
            have hwk := HWK.out.1 wt (by rw [HS2.out]; simp)
            have HDA := Lib.hid (show denL 1 (wtsTo j n0 n1 sp (k + 1)) = lcmP (denL 1 (wtsTo j n0 n1 sp k)) wt.q by rw [HS2.out, denL_app])
            have hq2 : wt.q ≤ 372100000000 := by
              have h1 := Nat.le_of_dvd hdk1.1 (denL_mul.2 wt (show wt ∈ wtsTo j n0 n1 sp (k + 1) by rw [HS2.out]; simp))
              omega
            have hq1 := hwk.1.q
            clear hwk
            rw [HDA.out] at hdk1
            have HLC := Lib.hid (fun w9 => lcm_any (denL 1 (wtsTo j n0 n1 sp k)) wt.q w9 hdk.1 hq1 (by omega) (by omega) (by omega))
            generalize denL 1 (wtsTo j n0 n1 sp k) = dk at *
            generalize wt.q = wq at *
            go_wp2_with (go_at_call 30; refine (HLC.out _).mono ?_; rintro e wl ⟨rfl, hbl⟩; have HBL := Lib.hid (HBX.out.trans (hbl.mono HBX.out.size)); clear hbl)
            go_roundw
            case rel => exact ⟨k + 1, by omega, by go_num, by rw [HDA.out], HBL.out⟩
            case measure => first | (simp [intOf]; done) | (simp [intOf]; omega)
        · obtain rfl : k = j.blanks.length := by omega
          have hki2 : ¬ ((j.blanks.length : Nat) : Int) < ((j.blanks.length : Nat) : Int) := by omega
          have hdk := HDL.out j.blanks.length
          have HBP := Lib.hid (numP_bd (D := denL 1 (wtsM j n0 n1 sp)) (l := wtsM j n0 n1 sp) fun x hx => ⟨((HW.out _).1 x hx).1, denL_mul.2 x hx, ((HW.out _).1 x hx).2.2.2⟩)
          have HBS := Lib.hid (show bndS j n0 n1 sp = ceilN (numP (denL 1 (wtsM j n0 n1 sp)) (wtsM j n0 n1 sp)) (denL 1 (wtsM j n0 n1 sp)) from rfl)
          have HQD := Lib.hid (fun x (hx : x ∈ wtsM j n0 n1 sp) => show x.q ∣ denL 1 (wtsM j n0 n1 sp) from denL_mul.2 x hx)
          have HWM := Lib.hid (show wtsM j n0 n1 sp = wtsTo j n0 n1 sp j.blanks.length from rfl)
          have HCI := Lib.hid (HCO.out.keep hbi hzo)
          rw [← HWM.out] at hdk ⊢
          obtain ⟨D, hD⟩ : ∃ D, D = denL 1 (wtsM j n0 n1 sp) := ⟨_, rfl⟩
          rw [← hD] at hdk HBP HBS HQD ⊢
          clear hD
          obtain ⟨q0, q1, q2, q3, q4⟩ := HCI.out
          go_upto_region 17 with fail
          clear q0 q1 q2 q3 q4
          go_wp2_with fail
          go_loopw [14, 57] (fun dv iv wr => ∃ k : Nat, k ≤ j.blanks.length ∧ iv = .int .i64 k ∧ dv = .int .i64 ((numP D (wtsTo j n0 n1 sp k) : Nat) : Int) ∧ Below wi.heap.size wi wr) (fun _ iv _ => j.blanks.length - (intOf iv).toNat)
          case atStart => exact ⟨0, Nat.zero_le _, rfl, rfl, Below.refl _ _⟩
          case round =>
            obtain ⟨k, hk2, rfl, rfl, hbn⟩ := hrel
            have HBN := Lib.hid hbn
            obtain ⟨wn, rfl⟩ : ∃ wn : World, wn = wr := ⟨_, rfl⟩
            by_cases hlt3 : k < j.blanks.length
            · have hki3 : (k : Int) < (j.blanks.length : Int) := by omega
              have hbin := HBI.out.trans (hbn.mono HBI.out.size)
              obtain ⟨bb, bo, rfl, bx⟩ := (HBV.out.keep hbin).at_ hlt3
              obtain ⟨s0, s1, s2, s3, s4, s5, -⟩ := bx
              have HYS := Lib.hid (fun h => wtsTo_yes (n0 := n0) (n1 := n1) (sp := sp) hlt3 h)
              have HNO := Lib.hid (fun h => wtsTo_no (n0 := n0) (n1 := n1) (sp := sp) hlt3 h)
              have HWK := Lib.hid (HW.out (k + 1))
              have HWQ := Lib.hid (HW.out k)
              have HWA := Lib.hid (show ∀ y ∈ wtsTo j n0 n1 sp (k + 1), y ∈ wtsM j n0 n1 sp from fun y hy => by
                unfold wtsM
                unfold wtsTo at hy ⊢
                obtain ⟨z, hz, rfl⟩ := List.mem_map.1 hy
                obtain ⟨hz1, hz2⟩ := List.mem_filter.1 hz
                exact List.mem_map.2 ⟨z, List.mem_filter.2 ⟨by rw [List.take_length]; exact List.mem_of_mem_take hz1, hz2⟩, rfl⟩)
              have hcnt := (HJO.out.want _ (List.getElem_mem hlt3)).2
              obtain ⟨fb, fo, rfl, f0, f1⟩ := (HBF.out.keep hbin).at_ (show k < (j.blanks.map (wfr j n0 n1)).length by rw [HLM.out]; exact hlt3)
              rw [List.getElem_map] at f0 f1
              rw [(wfr_wt j n0 n1 j.blanks[k]).2] at f1
              rw [(wfr_wt j n0 n1 j.blanks[k]).1] at f0
              obtain ⟨wt, hwt⟩ : ∃ t, t = wtOf j n0 n1 j.blanks[k] := ⟨_, rfl⟩
              have hwc : (wt.c : Int) = j.blanks[k].count := by rw [hwt]; show ((j.blanks[k].count.toNat : Nat) : Int) = _; omega
              rw [← hwt] at f0 f1 HYS
              generalize j.blanks[k] = x at *
              clear hwt
              go_upto_region 19 with fail
              refine gen_world (fun W1 => W1.cell? ⟨wn.heap.size, 1, none⟩ = some (.string x.species) ∧ W1.cell? ⟨wn.heap.size, 5, none⟩ = some (.int .i64 x.count) ∧ Below wn.heap.size wn W1) ⟨by simp [go_sem], by simp [go_sem], by repeat (first | (with_reducible assumption) | exact Below.refl _ _ | (refine Below.setCell ?_ (by first | omega | (simp; omega) | (simp; done)) _) | (refine Below.alloc ?_ (by first | omega | (simp; omega) | (simp; done)) _) | (refine Below.drew ?_))⟩ ?_
              rintro W1 ⟨t1, t5, hb1⟩
              have f0 := cell_keep hb1 f0
              have f1 := cell_keep hb1 f1
              have HBX := Lib.hid (HBN.out.trans (hb1.mono HBN.out.size))
              obtain ⟨g16, hg16⟩ : ∃ g, g = wn.heap.size := ⟨_, rfl⟩
              rw [← hg16] at t1 t5 ⊢
              have hfl := block_lt_of_cell f1
              have htl := block_lt_of_cell t1
              simp only at hfl htl
              clear s0 s1 s2 s3 s4 s5 hb1 hg16 hbn hbin
              cases hsp : (x.species.toList == sp.toList)
              · have HS2 := Lib.hid (HNO.out hsp)
                go_wp2_with fail
                go_roundw
                case rel => exact ⟨k + 1, by omega, by go_num, by rw [HS2.out], HBX.out⟩
                case measure => first | (simp [intOf]; done) | (simp [intOf]; omega)
              · have HS2 := Lib.hid (HYS.out hsp)
                have hmem : wt ∈ wtsTo j n0 n1 sp (k + 1) := by rw [HS2.out]; simp
                have hwk := HWK.out.1 wt hmem
                have HNA := Lib.hid (show numP D (wtsTo j n0 n1 sp (k + 1)) = numP D (wtsTo j n0 n1 sp k) + wt.p * (D / wt.q) * wt.c by rw [HS2.out, numP_app])
                have hnb := numP_bd (D := D) (l := wtsTo j n0 n1 sp k) fun y hy => ⟨(HWQ.out.1 y hy).1, HQD.out y (HWA.out y (by rw [HS2.out]; simp [hy])), (HWQ.out.1 y hy).2.2.2⟩
                have hnl := HWQ.out.2
                have hq1 := hwk.1.q
                have hc2 := hwk.2.2.2
                have hP1 : wt.p * (D / wt.q) ≤ D := by
                  obtain ⟨z, hz⟩ := HQD.out wt (HWA.out wt hmem)
                  have e1 : D / wt.q = z := by rw [hz, Nat.mul_div_cancel_left _ hq1]
                  have hp : wt.p ≤ wt.q := by
                    have h1 : wt.p * wt.v ≤ wt.q * wt.v := by rw [hwk.1.eq]; exact Nat.mul_le_mul_left _ hwk.1.le
                    exact Nat.le_of_mul_le_mul_right h1 hwk.1.v
                  rw [e1]; rw [hz]; exact Nat.mul_le_mul_right _ hp
                have hP2 : wt.p * (D / wt.q) * wt.c ≤ D * 200 := Nat.mul_le_mul hP1 hc2
                have hnb2 : numP D (wtsTo j n0 n1 sp k) ≤ 30 * (200 * D) := Nat.le_trans hnb (Nat.mul_le_mul_right _ hnl)
                have hqd : (D : Int) / ((wt.q : Nat) : Int) = ((D / wt.q : Nat) : Int) := (Int.natCast_ediv _ _).symm
                clear hwk hnb hmem
                have hQD := Nat.div_le_self D wt.q
                generalize numP D (wtsTo j n0 n1 sp k) = N0 at *
                obtain ⟨Q, hQ⟩ : ∃ Q, Q = D / wt.q := ⟨_, rfl⟩
                rw [← hQ] at hqd hP1 hP2 HNA hQD
                obtain ⟨P1, hPP1⟩ : ∃ P, P = wt.p * Q := ⟨_, rfl⟩
                rw [← hPP1] at hP1 hP2 HNA
                obtain ⟨P2, hPP2⟩ : ∃ P, P = P1 * wt.c := ⟨_, rfl⟩
                rw [← hPP2] at hP2 HNA
                have hq0 : ¬ ((wt.q : Nat) : Int) = 0 := by omega
                have hq0' : ¬ wt.q = 0 := by omega
                have w0 : IntKind.i64.wrap ((Q : Nat) : Int) = (Q : Int) := IntWalk.i64_in _ (by omega)
                have w1 : IntKind.i64.wrap ((wt.p : Int) * (Q : Int)) = (P1 : Int) := by rw [show (wt.p : Int) * (Q : Int) = ((P1 : Nat) : Int) by rw [hPP1]; push_cast; rfl]; exact IntWalk.i64_in _ (by omega)
                have w2' : IntKind.i64.wrap ((P1 : Int) * x.count) = (P2 : Int) := by rw [show (P1 : Int) * x.count = ((P2 : Nat) : Int) by rw [hPP2, ← hwc]; push_cast; rfl]; exact IntWalk.i64_in _ (by omega)
                have w3 : IntKind.i64.wrap ((N0 : Int) + (P2 : Int)) = ((N0 + P2 : Nat) : Int) := by rw [← Int.natCast_add]; exact IntWalk.i64_in _ (by omega)
                clear hQ hPP1 hPP2 hwc
                generalize wt.p = wp at *
                generalize wt.q = wq at *
                go_upto_region 20 with fail
                go_quiet (fail)
                rename_i nq
                go_wp2_with fail
                go_roundw
                case rel => exact ⟨k + 1, by omega, by go_num, by rw [HNA.out]; push_cast; rfl, below_drewN HBX.out nq⟩
                case measure => first | (simp [intOf]; done) | (simp [intOf]; omega)
            · obtain rfl : k = j.blanks.length := by omega
              have hki3 : ¬ ((j.blanks.length : Nat) : Int) < ((j.blanks.length : Nat) : Int) := by omega
              have hwl := (HW.out j.blanks.length).2
              have hnb2 := HBP.out
              have HBZ := Lib.hid (HBO.out.trans ((HBI.out.trans (hbn.mono HBI.out.size)).mono HBO.out.size))
              rw [← HWM.out] at hwl ⊢
              have hnb3 : numP D (wtsM j n0 n1 sp) ≤ 30 * (200 * D) := Nat.le_trans hnb2 (Nat.mul_le_mul_right _ hwl)
              clear hnb2 hbn
              generalize numP D (wtsM j n0 n1 sp) = N0 at *
              have hd0 : ¬ (D : Int) = 0 := by omega
              have hd0' : ¬ D = 0 := by omega
              have HCE := Lib.hid (show (((N0 + D - 1 : Nat) : Int)) / (D : Int) = ((bndS j n0 n1 sp : Nat) : Int) by rw [HBS.out]; unfold ceilN; exact (Int.natCast_ediv _ _).symm)
              generalize bndS j n0 n1 sp = BS at *
              have hce := HCE.out
              have w1 : IntKind.i64.wrap ((N0 : Int) + (D : Int)) = (N0 : Int) + (D : Int) := IntWalk.i64_in _ (by omega)
              have w2' : IntKind.i64.wrap ((N0 : Int) + (D : Int) - 1) = ((N0 + D - 1 : Nat) : Int) := by rw [show (N0 : Int) + (D : Int) - 1 = ((N0 + D - 1 : Nat) : Int) by omega]; exact IntWalk.i64_in _ (by omega)
              have w3 : IntKind.i64.wrap ((BS : Nat) : Int) = (BS : Int) := IntWalk.i64_in _ (by omega)
              have w4 : IntKind.i64.wrap ((S0 : Int) + (BS : Int)) = ((S0 + BS : Nat) : Int) := by rw [← Int.natCast_add]; exact IntWalk.i64_in _ (by omega)
              go_wp2_with fail
              go_roundw
              case rel => exact ⟨m + 1, by omega, by go_num, by rw [HTK.out]; push_cast; rfl, HBZ.out⟩
              case measure => first | (simp [intOf]; done) | (simp [intOf]; omega)
    · obtain rfl : m = K.length := by omega
      have hki : ¬ ((K.length : Nat) : Int) < ((K.length : Nat) : Int) := by omega
      have HR := Lib.hid (show BV = ((bndTo j n0 n1 K : Nat) : Int) by rw [HB0.out, HBT.out])
      have HBZ := Lib.hid (HB2.out.trans (hbr.mono HB2.out.size))
      go_wp2_with fail
      go_ret2
      exact ⟨by rw [HR.out]; rfl, HBZ.out⟩
end Go.Proofs.YtpaindkfbgoogaaGreat
