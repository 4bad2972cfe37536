/- The search for the fewest bars, of the document's side. -/
import Derived.Test.YtoelfalmmaddlaaBW1
import Derived.BigRegion
set_option linter.unusedVariables false
set_option linter.unusedSimpArgs false
namespace Go.Proofs.Ytoelfalmmaddlaa
open Go Go.RowKit Go.Sort Go.Lib

/-- A row of truth values, as it lies. -/
def BoolsV (w : World) (a : Option Addr) (l : List Bool) : Prop := l ≠ [] → ∃ b off, a = some ⟨b, off, none⟩ ∧ ∀ k x, l[k]? = some x → w.cell? ⟨b, off + k, none⟩ = some (.bool x)
theorem boolsV_keep {w w' : World} {a : Option Addr} {l : List Bool} (h : BoolsV w a l) (hb : Below w.heap.size w w') : BoolsV w' a l := by
  intro hne
  obtain ⟨b, off, ha, hx⟩ := h hne
  exact ⟨b, off, ha, fun k x hk => cell_keep hb (hx k x hk)⟩
theorem own_boolsV {w : World} {base e g cap : Nat} {l : List Bool} {n : Nat} (h : w.ownsRow base e 1 (.slice (some ⟨g, 0, none⟩) n cap) n (l.map Value.bool)) : BoolsV w (some ⟨g, 0, none⟩) l := by
  intro _
  refine ⟨g, 0, rfl, fun k x hk => ?_⟩
  have := h.cells (g := g) rfl k (.bool x) (by simp [hk])
  rwa [addr_add] at this
theorem own_intsV1 {w : World} {base e g cap : Nat} {l : List Int} {n : Nat} (h : w.ownsRow base e 1 (.slice (some ⟨g, 0, none⟩) n cap) n (l.map (Value.int .i64))) : IntsV w (some ⟨g, 0, none⟩) l := by
  intro _
  refine ⟨g, 0, rfl, fun k x hk => ?_⟩
  have := h.cells (g := g) rfl k (.int .i64 x) (by simp [hk])
  rwa [addr_add] at this
section
variable {w : World}
theorem run_append_bools (base : Nat) (i : TypeInfo) (hi : Try.prog.info? 4 = some i) (hz : i.zero = some (.bool false)) (h1 : i.size = 1) (h8 : i.bytes = 1) (ty : TypeId) (v : Value) (n : Nat) (xs : List Value) (hown : w.ownsRow base 4 1 v n xs)
    (a : Option Addr) (l : List Bool) (c : Nat) (hv : BoolsV w a l) (hn : n + l.length ≤ 1000000) (hb : base ≤ w.heap.size) :
    ∃ v' w', (Builtin.append_ #[37, 37] ty #[v, .slice a l.length c]).run Try.prog w = .ok v' w' ∧ w'.ownsRow base 4 1 v' (n + l.length) (xs ++ l.map Value.bool) ∧ w.grownBy w' v.ownBlock := by
  by_cases hl : l = []
  · subst hl
    refine ⟨v, w, ?_, by simpa using hown, ⟨rfl, rfl, rfl, Nat.le_refl _, fun _ _ _ => rfl⟩⟩
    have hf : (Builtin.firstCells 1 0 (.slice a 0 c)).run Try.prog w = .ok #[] w := by
      cases a with
      | none => exact run_firstCells_none w 1 0 0 c
      | some a => exact run_firstCells_some w 1 0 a 0 c [] (by simp) (by simp)
    rcases hown.2 with ⟨rfl, rfl⟩ | ⟨g, cap, cur, rfl, _, _, hnc, _⟩
    · simp [Builtin.append_, run_underlying Try.underlying37, sizeOf, typeInfo, hi, h1, Builtin.lenOf, hf]
    · simp [Builtin.append_, run_underlying Try.underlying37, sizeOf, typeInfo, hi, h1, Builtin.lenOf, hf, hnc, storeCells]
  · obtain ⟨b, off, rfl, hc⟩ := hv hl
    obtain ⟨v', w', h2, h3, h4, -⟩ := run_append_own (P := Try.prog) w base 37 ty 4 i (.bool false) 1 1 Try.underlying37 hi hz h1 h8 rfl (by decide) v n xs hown ⟨b, off, none⟩ l.length c (l.map Value.bool) (by simp) (by
      intro j u hj
      rw [List.getElem?_map, Option.map_eq_some_iff] at hj
      obtain ⟨x, hx, rfl⟩ := hj
      rw [addr_add]; exact hc j x hx) (by
      intro u hu
      obtain ⟨x, _, rfl⟩ := List.mem_map.1 hu
      rfl) (by unfold maxLen; omega) (by omega) hb
    exact ⟨v', w', h2, h3, h4⟩
theorem wp_append_bools {o : Oper} {a : Act} {K : Act → World → Prop} {Q : Exit → Act → World → Prop} (s x : Operand) (ho : o.op = .call { callee := .builtin .append, args := #[s, x], argTypes := #[37, 37] })
    (base : Nat) (i : TypeInfo) (hi : Try.prog.info? 4 = some i) (hz : i.zero = some (.bool false)) (h1 : i.size = 1) (h8 : i.bytes = 1) (v : Value) (n : Nat) (xs : List Value) (hs : a.eval s = v) (hown : w.ownsRow base 4 1 v n xs)
    (ad : Option Addr) (l : List Bool) (c : Nat) (hx : a.eval x = .slice ad l.length c) (hv : BoolsV w ad l) (hn : n + l.length ≤ 1000000) (hb : base ≤ w.heap.size)
    (h : ∀ v' w', w'.ownsRow base 4 1 v' (n + l.length) (xs ++ l.map Value.bool) → w.grownBy w' v.ownBlock → K (a.put o.dst v') w') : o.wp Try.prog a w K Q := by
  obtain ⟨v', w', hr, h2, h3⟩ := run_append_bools base i hi hz h1 h8 o.type v n xs hown ad l c hv hn hb
  unfold Oper.wp execOp
  simp only [ho, resolve, invoke, builtin, Sem.run_bind, Sem.run_pure, Result.andThen_ok, List.map_toArray, List.map_cons, List.map_nil, hs, hx, hr]
  exact h v' w' h2 h3
theorem wpList_append_bools {ops : Array Oper} {rest : List Oper} {o : Oper} {a : Act} {Q : Exit → Act → World → Prop} (hgd : o.guard = none) (s x : Operand) (ho : o.op = .call { callee := .builtin .append, args := #[s, x], argTypes := #[37, 37] })
    (base : Nat) (i : TypeInfo) (hi : Try.prog.info? 4 = some i) (hz : i.zero = some (.bool false)) (h1 : i.size = 1) (h8 : i.bytes = 1) (v : Value) (n : Nat) (xs : List Value) (hs : a.eval s = v) (hown : w.ownsRow base 4 1 v n xs)
    (ad : Option Addr) (l : List Bool) (c : Nat) (hx : a.eval x = .slice ad l.length c) (hv : BoolsV w ad l) (hn : n + l.length ≤ 1000000) (hb : base ≤ w.heap.size)
    (h : ∀ v' w', w'.ownsRow base 4 1 v' (n + l.length) (xs ++ l.map Value.bool) → w.grownBy w' v.ownBlock → wpList Try.prog ops Q rest (a.put o.dst v') w') : wpList Try.prog ops Q (o :: rest) a w :=
  wpList_plain hgd fun _ hK => wp_append_bools s x ho base i hi hz h1 h8 v n xs hs hown ad l c hx hv hn hb fun v' w' h2 h3 => hK _ _ (h v' w' h2 h3)
end

theorem cntT_take {u : List Bool} {j : Nat} (h : j < u.length) : cntT (u.take (j + 1)) = cntT (u.take j) + if u[j] = true then 1 else 0 := by
  unfold cntT
  rw [List.take_succ_eq_append_getElem h, List.countP_append, List.countP_singleton]
theorem cntT_le {u : List Bool} {j : Nat} : cntT (u.take j) ≤ u.length := Nat.le_trans List.countP_le_length (by simp; omega)
/-- The answer of the search, for one start. -/
def FewAt (a1 a2 : Option Addr) (n1 c1 : Nat) (ln : List Int) (c2 : Nat) (kerf : Int) (k : Nat) : Prop :=
  ∀ (room : List Int) (used : List Bool) (a3 a4 : Option Addr) (c3 c4 : Nat) (w : World), IntsV w a2 ln → IntsV w a3 room → BoolsV w a4 used → used.length = room.length → room.length ≤ 1000 → (∀ x ∈ room, 0 ≤ x ∧ x ≤ 1000000) →
    Calls Try.prog 9 #[.agg #[.slice a1 n1 c1, .slice a2 ln.length c2, .int .i64 kerf], .slice a3 room.length c3, .slice a4 used.length c4, .int .i64 (k : Int)] w fun e w' => e = .returned (.int .i64 (fewM kerf (ln.drop k) room used)) ∧ Below w.heap.size w w'
set_option maxRecDepth 100000 in
set_option maxHeartbeats 4000000 in
theorem few_end (a1 a2 : Option Addr) (n1 c1 : Nat) (ln : List Int) (c2 : Nat) (kerf : Int) : FewAt a1 a2 n1 c1 ln c2 kerf ln.length := by
  intro room used a3 a4 c3 c4 w hv2 hv3 hv4 hlen hl hrm
  have HV4 := Lib.hid hv4
  have HE := Lib.hid (show fewM kerf [] room used = (cntT used : Int) from rfl)
  clear hv2 hv3 hv4 hrm
  have hul : used.length ≤ 1000 := by omega
  clear hlen hl
  go_enter Try.func9, Try.ntmps9
  go_upto_region 1 with fail
  refine gen_world (fun W => CB W w.heap.size a1 n1 c1 a2 ln.length c2 kerf ∧ Below w.heap.size w W ∧ w.heap.size < W.heap.size) ⟨⟨by simp [go_sem], by simp [go_sem], by simp [go_sem]⟩, by repeat (first | (with_reducible assumption) | exact Below.refl _ _ | (refine Below.setCell ?_ (by first | omega | (simp; omega) | (simp; done)) _) | (refine Below.alloc ?_ (by first | omega | (simp; omega) | (simp; done)) _) | (refine Below.drew ?_)), by simp⟩ ?_
  rintro W ⟨hC, hbW, hz⟩
  obtain ⟨gj, hgj⟩ : ∃ g, g = w.heap.size := ⟨_, rfl⟩
  have hzj : gj < W.heap.size := by omega
  rw [← hgj] at hC ⊢
  have hC1 := hC.l
  have HBW := Lib.hid hbW
  clear hbW hz hgj
  go_wp2_with fail
  go_loopw [9, 10] (fun nv iv wr => ∃ k : Nat, k ≤ used.length ∧ iv = .int .i64 k ∧ nv = .int .i64 (cntT (used.take k) : Nat) ∧ Below W.heap.size W wr) (fun _ iv _ => used.length - (intOf iv).toNat)
  case atStart => exact ⟨0, Nat.zero_le _, rfl, rfl, by first | exact Below.refl _ _ | exact (Below.refl _ _).drew⟩
  case round =>
    obtain ⟨k, hk', rfl, rfl, hbr⟩ := hrel
    have HBR := Lib.hid hbr
    by_cases hlt : k < used.length
    · have hki : (k : Int) < (used.length : Int) := by omega
      have hcl := cntT_le (u := used) (j := k)
      have v1 : IntKind.i64.wrap ((k : Int) + 1) = (k : Int) + 1 := IntWalk.i64_in _ (by omega)
      have v2 : IntKind.i64.wrap (((cntT (used.take k) : Nat) : Int) + 1) = ((cntT (used.take k) : Nat) : Int) + 1 := IntWalk.i64_in _ (by omega)
      have HTK := Lib.hid (cntT_take hlt)
      obtain ⟨b, off, ha, hx⟩ := HV4.out (by intro e; subst e; simp at hlt)
      subst ha
      have hc := cell_keep (HBW.out.trans (hbr.mono HBW.out.size)) (hx k _ (List.getElem?_eq_getElem hlt))
      clear hx hbr
      cases hu : used[k] <;> rw [hu] at hc HTK
      all_goals
        go_wp2_with fail
        go_roundw
        case rel => exact ⟨k + 1, by omega, by go_num, by rw [HTK.out]; simp, by first | exact HBR.out | exact HBR.out.drew⟩
        case measure => first | (simp [intOf]; done) | (simp [intOf]; omega)
    · obtain rfl : k = used.length := by omega
      have hki : ¬ ((used.length : Nat) : Int) < ((used.length : Nat) : Int) := by omega
      rw [List.take_length]
      have hW := HBW.out.size
      go_wp2_with fail
      go_ret
      exact ⟨by first | (rw [HE.out]; rfl) | (rw [List.drop_length, HE.out]; rfl), HBW.out.trans (hbr.mono hW)⟩
theorem getDI {l : List Int} {i : Nat} (h : i < l.length) : l.getD i 0 = l[i] := by simp [List.getD_eq_getElem?_getD, h]
theorem made_bools (w : World) : (w.alloc (.cells #[] 4)).ownsRow w.heap.size 4 1 (.slice (some ⟨w.heap.size, 0, none⟩) 0 0) 0 [] := by
  have h := made_own (w := w) (base := w.heap.size) (n := 0) (T := 4) (z := .bool false) (Nat.le_refl _) (by unfold maxLen; omega)
  rw [show madeCells #[Value.bool false] 0 = #[] from Array.eq_empty_of_size_eq_zero (by simp [size_madeCells])] at h
  exact h
theorem own_setne {w : World} {base e k n g cap : Nat} {xs : List Value} {b i : Nat} {v : Value} (h : w.ownsRow base e k (.slice (some ⟨g, 0, none⟩) n cap) n xs) (hne : g ≠ b) : (w.setCell ⟨b, i, none⟩ v).ownsRow base e k (.slice (some ⟨g, 0, none⟩) n cap) n xs := by
  refine ⟨h.1, ?_⟩
  rcases h.2 with h0 | ⟨g', cap', cur, e0, hb, hg, r⟩
  · exact .inl h0
  · have e1 := e0
    injection e1 with e1
    injection e1 with e1
    injection e1 with e1
    subst e1
    exact .inr ⟨g, cap', cur, e0, hb, by simp [World.setCell, Array.getElem?_modify, hg, Ne.symm hne], r⟩
theorem own_some {w : World} {base e k n : Nat} {v : Value} {xs : List Value} (h : w.ownsRow base e k v n xs) (hn : 0 < n) : ∃ g cap, v = .slice (some ⟨g, 0, none⟩) n cap ∧ base ≤ g ∧ g < w.heap.size := by
  rcases h.2 with ⟨rfl, h0⟩ | ⟨g, cap, cur, rfl, hb, hg, _⟩
  · omega
  · exact ⟨g, cap, rfl, hb, (Array.getElem?_eq_some_iff.1 hg).1⟩
set_option maxRecDepth 100000 in
set_option maxHeartbeats 8000000 in
theorem few_step (a1 a2 : Option Addr) (n1 c1 : Nat) (ln : List Int) (c2 : Nat) (kerf : Int) (k : Nat) (hk : k < ln.length) (hll : ln.length ≤ 1000) (hln : ∀ m ∈ ln, 0 ≤ m ∧ m ≤ 600000) (hke : 0 ≤ kerf ∧ kerf ≤ 10000) (HIH : Hid (FewAt a1 a2 n1 c1 ln c2 kerf (k + 1))) : FewAt a1 a2 n1 c1 ln c2 kerf k := by
  intro room used a3 a4 c3 c4 w hv2 hv3 hv4 hlen hl hrm
  obtain ⟨m, hm⟩ : ∃ m, m = ln[k] := ⟨_, rfl⟩
  obtain ⟨sub, hsub⟩ : ∃ sub : Nat → Int, sub = fun i => fewM kerf (ln.drop (k + 1)) (room.set i (room.getD i 0 - m - kerf)) (used.set i true) := ⟨_, rfl⟩
  have HE := Lib.hid (show fewM kerf (ln.drop k) room used = pickM room (m + kerf) sub room.length by rw [List.drop_eq_getElem_cons hk, fewM, hsub, hm])
  have hms := hln _ (List.getElem_mem hk)
  rw [← hm] at hms
  have HM := Lib.hid (show ln[k]? = some m by rw [hm]; exact List.getElem?_eq_getElem hk)
  have HSUB := Lib.hid (show ∀ i, sub i = fewM kerf (ln.drop (k + 1)) (room.set i (room.getD i 0 - m - kerf)) (used.set i true) by rw [hsub]; exact fun _ => rfl)
  have HV2 := Lib.hid hv2
  have HV3 := Lib.hid hv3
  have HV4 := Lib.hid hv4
  have HRM := Lib.hid hrm
  have HLEN := Lib.hid hlen
  have HLL := Lib.hid hll
  obtain ⟨i0, hi0, hz0, hz1, hz2⟩ := info_parts int_info
  obtain ⟨n0, hn0, hx0, hx1, hx2⟩ := info_parts bool_info
  have hmix : Try.prog.follows .mixedOrders = true := by kernel_rfl
  clear hv2 hv3 hv4 hrm hlen hln hsub hm hll
  have hki : (k : Int) < (ln.length : Int) := by omega
  have hkn : ¬ (k : Int) = (ln.length : Int) := by omega
  have vk : IntKind.i64.wrap ((k : Int) + 1) = (k : Int) + 1 := IntWalk.i64_in _ (by have := HLL.out; omega)
  have vm : IntKind.i64.wrap (m + kerf) = m + kerf := IntWalk.i64_in _ (by omega)
  go_enter Try.func9, Try.ntmps9
  go_upto_region 1 with fail
  refine gen_world (fun W => CB W w.heap.size a1 n1 c1 a2 ln.length c2 kerf ∧ Below w.heap.size w W ∧ w.heap.size < W.heap.size) ⟨⟨by simp [go_sem], by simp [go_sem], by simp [go_sem]⟩, by repeat (first | (with_reducible assumption) | exact Below.refl _ _ | (refine Below.setCell ?_ (by first | omega | (simp; omega) | (simp; done)) _) | (refine Below.alloc ?_ (by first | omega | (simp; omega) | (simp; done)) _) | (refine Below.drew ?_)), by simp⟩ ?_
  rintro W ⟨hC, hbW, hz⟩
  obtain ⟨gj, hgj⟩ : ∃ g, g = w.heap.size := ⟨_, rfl⟩
  have hzj : gj < W.heap.size := by omega
  rw [← hgj] at hC ⊢
  have hC1 := hC.l
  have HC := Lib.hid hC
  have HBW := Lib.hid hbW
  clear hbW hz hgj hC
  go_wp2_with fail
  have hkb : ((k : Int) == (ln.length : Int)) = false := by simpa using hkn
  simp only [hkb]
  go_loopw [11, 12] (fun bv iv wr => ∃ i : Nat, i ≤ room.length ∧ iv = .int .i64 i ∧ bv = .int .i64 (pickM room (m + kerf) sub i) ∧ Below W.heap.size W wr) (fun _ iv _ => room.length - (intOf iv).toNat)
  case atStart => exact ⟨0, Nat.zero_le _, rfl, rfl, by first | exact Below.refl _ _ | exact (Below.refl _ _).drew⟩
  case round =>
    obtain ⟨i, hi', rfl, rfl, hbr⟩ := hrel
    obtain ⟨wo, rfl⟩ : ∃ wo : World, wo = wr := ⟨_, rfl⟩
    have HBO := Lib.hid hbr
    have hCO := HC.out.keep hbr
    have hbw := HBW.out.trans (hbr.mono HBW.out.size)
    obtain ⟨q0, q1, q2⟩ := hCO
    by_cases hlt : i < room.length
    · have hii : (i : Int) < (room.length : Int) := by omega
      have v1 : IntKind.i64.wrap ((i : Int) + 1) = (i : Int) + 1 := IntWalk.i64_in _ (by omega)
      have hr := HRM.out _ (List.getElem_mem hlt)
      obtain ⟨x, hxd⟩ : ∃ x, x = room[i] := ⟨_, rfl⟩
      have HPK := Lib.hid (show pickM room (m + kerf) sub (i + 1) = if x < m + kerf then pickM room (m + kerf) sub i else if 0 ≤ sub i ∧ (pickM room (m + kerf) sub i < 0 ∨ sub i < pickM room (m + kerf) sub i) then sub i else pickM room (m + kerf) sub i by rw [pickM, getDI hlt, hxd])
      have HXD := Lib.hid (show room.getD i 0 = x by rw [getDI hlt, hxd])
      have HXG := Lib.hid (show room[i]? = some x by rw [List.getElem?_eq_getElem hlt, hxd])
      rw [← hxd] at hr
      clear hxd
      obtain ⟨b2, o2, ha2, hx2'⟩ := HV2.out (by intro e; subst e; simp at hk)
      obtain ⟨b3, o3, ha3, hx3'⟩ := HV3.out (by intro e; subst e; simp at hlt)
      subst ha2; subst ha3
      have hcm := cell_keep hbw (hx2' k _ HM.out)
      have hcx := cell_keep hbw (hx3' i _ HXG.out)
      clear hx2' hx3'
      by_cases hless : x < m + kerf
      · clear hbr hbw
        go_wp2_with fail
        go_quiet (fail)
        rename_i nq
        go_wp2_with fail
        go_roundw
        case rel => exact ⟨i + 1, by omega, by go_num, by rw [HPK.out, if_pos hless], below_drewN HBO.out nq⟩
        case measure => first | (simp [intOf]; done) | (simp [intOf]; omega)
      · have HPK := Lib.hid (HPK.out.trans (if_neg hless))
        go_upto_region 13 with fail
        go_quiet (fail)
        rename_i nq
        go_upto_region 14 with fail
        refine gen_world (fun W9 => Below wo.heap.size wo W9) (below_drewN (Below.refl _ _) nq) ?_
        rintro W9 hb9
        have r0 := cell_keep hb9 q0
        have r1 := cell_keep hb9 q1
        have r2 := cell_keep hb9 q2
        have hcm9 := cell_keep hb9 hcm
        have HW9 := Lib.hid (HBO.out.trans (hb9.mono HBO.out.size))
        have HW0 := Lib.hid (HBW.out.trans (HW9.out.mono HBW.out.size))
        have hv39 := intsV_keep HV3.out HW0.out
        have HV49 := Lib.hid (boolsV_keep HV4.out HW0.out)
        clear q0 q1 q2 hcm hcx hbr hbw hb9
        go_upto_region 15 with (first
          | (go_at_call 21; refine (copyInts_any _ room c3 _ hv39 hl).mono ?_; rintro e w1 ⟨v, rfl, ho, hb⟩; have HO1 := Lib.hid ho; have HB1 := Lib.hid hb; clear ho hb)
          | (at_builtin; go_loud (refine wpList_append_bools rfl _ _ rfl w1.heap.size n0 hn0 hx0 hx1 hx2 _ 0 [] rfl (made_bools w1) a4 used c4 rfl (boolsV_keep HV49.out (HB1.out.trans (((Below.refl _ _).alloc (Nat.le_refl _) _).mono HB1.out.size))) (by have := HLEN.out; omega) (by simp) ?_); intro v9 w9 ho9 hg9; have HO9 := Lib.hid ho9; have HG9 := Lib.hid hg9; clear ho9 hg9))
        have hu9 := HLEN.out
        have h19 : Below w1.heap.size w1 w9 := ((Below.refl _ _).alloc (Nat.le_refl _) _).grown HG9.out (by simp) (fun q hq => own_base (made_bools w1) hq)
        have hbW9 : Below W9.heap.size W9 w9 := HB1.out.trans (h19.mono HB1.out.size)
        have ho1 := own_keep HO1.out h19
        have ho9 := HO9.out
        rw [Nat.zero_add, List.nil_append] at ho9
        obtain ⟨g3, cp3, rfl, hg3a, hg3b⟩ := own_some HO1.out (by omega)
        obtain ⟨g4, cp4, rfl, hg4a, hg4b⟩ := own_some ho9 (by omega)
        obtain ⟨hc3, hf3⟩ := own_int_cell ho1 hlt
        have hxi : room[i] = x := by have h := HXG.out; rw [List.getElem?_eq_getElem hlt] at h; injection h
        rw [hxi] at hc3
        obtain ⟨hc4, hf4⟩ := own_bool_cell ho9 (show i < used.length by omega)
        have s0 := cell_keep hbW9 r0
        have s1 := cell_keep hbW9 r1
        have s2 := cell_keep hbW9 r2
        have s3 := cell_keep hbW9 hcm9
        have hz9 := hbW9.size
        have hz1' := h19.size
        have hne : g3 ≠ g4 := by omega
        have hne' : g4 ≠ g3 := by omega
        have hiu : (i : Int) < (used.length : Int) := by omega
        have va : IntKind.i64.wrap (x - m) = x - m := IntWalk.i64_in _ (by omega)
        have vb : IntKind.i64.wrap (x - m - kerf) = x - m - kerf := IntWalk.i64_in _ (by omega)
        have HOA := Lib.hid ho1
        have HOB := Lib.hid ho9
        have HBX := Lib.hid hbW9
        have HR := Lib.hid (And.intro r0 (And.intro r1 r2))
        have hg4c : W9.heap.size ≤ g4 := by have := HB1.out.size; omega
        clear ho1 ho9 hbW9 h19 HO9 HG9 HO1 hxi r0 r1 r2 hcm9 hv39 hu9
        generalize used.getD i false = ub at hc4
        go_region
        go_upto_region 16 with fail
        refine gen_world (fun W8 => W8.ownsRow W9.heap.size 3 1 (.slice (some ⟨g3, 0, none⟩) room.length cp3) room.length ((room.set i (x - m - kerf)).map (Value.int .i64)) ∧ W8.ownsRow w1.heap.size 4 1 (.slice (some ⟨g4, 0, none⟩) used.length cp4) used.length ((used.set i true).map Value.bool) ∧ Below W9.heap.size W9 W8) ⟨own_keep (own_setne (own_set1 HOA.out hlt) hne) ((Below.refl _ _).drew), own_keep (own_setb (own_setne HOB.out hne') (by omega)) ((Below.refl _ _).drew), ((HBX.out.setCell hg3a _).setCell hg4c _).drew⟩ ?_
        rintro W8 ⟨ho8a, ho8b, hb8⟩
        obtain ⟨t0, t1, t2⟩ := HR.out
        have t0 := cell_keep hb8 t0
        have t1 := cell_keep hb8 t1
        have t2 := cell_keep hb8 t2
        have HB8 := Lib.hid hb8
        have HIC : Hid (Calls Try.prog 9 #[.agg #[.slice a1 n1 c1, .slice (some ⟨b2, o2, none⟩) ln.length c2, .int .i64 kerf], .slice (some ⟨g3, 0, none⟩) room.length cp3, .slice (some ⟨g4, 0, none⟩) used.length cp4, .int .i64 ((k : Int) + 1)] W8 fun e w' => e = .returned (.int .i64 (sub i)) ∧ Below W8.heap.size W8 w') := by
          refine Lib.hid ?_
          have h := HIH.out (room.set i (x - m - kerf)) (used.set i true) (some ⟨g3, 0, none⟩) (some ⟨g4, 0, none⟩) cp3 cp4 W8 (intsV_keep HV2.out (HW0.out.trans (hb8.mono HW0.out.size))) (own_intsV1 ho8a) (own_boolsV ho8b) (by rw [List.length_set, List.length_set]; exact HLEN.out) (by rw [List.length_set]; exact hl) (by
            intro z hz
            rcases List.mem_or_eq_of_mem_set hz with hz | rfl
            · exact HRM.out z hz
            · omega)
          rw [List.length_set, List.length_set] at h
          rw [HSUB.out i, HXD.out]
          exact h
        clear hb8 ho8a ho8b hc3 hf3 hc4 hf4 s0 s1 s2 s3 HR HOA HOB HBX HSUB
        obtain ⟨sv, hsv⟩ : ∃ sv, sv = sub i := ⟨_, rfl⟩
        obtain ⟨pv, hpv⟩ : ∃ pv, pv = pickM room (m + kerf) sub i := ⟨_, rfl⟩
        rw [← hsv] at HIC HPK
        rw [← hpv] at HPK ⊢
        clear hsv hpv
        go_upto_region 17 with (go_at_call 9; refine HIC.out.mono ?_; rintro e w2 ⟨rfl, hb2⟩; have HB2 := Lib.hid hb2; clear hb2)
        have HWE := Lib.hid (HW9.out.trans ((HB8.out.trans (HB2.out.mono HB8.out.size)).mono HW9.out.size))
        by_cases p1 : 0 ≤ sv
        · by_cases p2 : pv < 0
          · go_wp2_with fail
            go_roundw
            case rel => exact ⟨i + 1, by omega, by go_num, by rw [HPK.out, if_pos (by omega)], HWE.out⟩
            case measure => first | (simp [intOf]; done) | (simp [intOf]; omega)
          · by_cases p3 : sv < pv
            · go_wp2_with fail
              go_roundw
              case rel => exact ⟨i + 1, by omega, by go_num, by rw [HPK.out, if_pos (by omega)], HWE.out⟩
              case measure => first | (simp [intOf]; done) | (simp [intOf]; omega)
            · go_wp2_with fail
              go_roundw
              case rel => exact ⟨i + 1, by omega, by go_num, by rw [HPK.out, if_neg (by omega)], HWE.out⟩
              case measure => first | (simp [intOf]; done) | (simp [intOf]; omega)
        · go_wp2_with fail
          go_roundw
          case rel => exact ⟨i + 1, by omega, by go_num, by rw [HPK.out, if_neg (by omega)], HWE.out⟩
          case measure => first | (simp [intOf]; done) | (simp [intOf]; omega)
    · obtain rfl : i = room.length := by omega
      have hii : ¬ ((room.length : Nat) : Int) < ((room.length : Nat) : Int) := by omega
      have hW := HBW.out.size
      go_wp2_with fail
      go_ret
      exact ⟨by rw [HE.out]; rfl, hbw⟩
theorem few_all (a1 a2 : Option Addr) (n1 c1 : Nat) (ln : List Int) (c2 : Nat) (kerf : Int) (hll : ln.length ≤ 1000) (hln : ∀ m ∈ ln, 0 ≤ m ∧ m ≤ 600000) (hke : 0 ≤ kerf ∧ kerf ≤ 10000) : ∀ d k, k + d = ln.length → FewAt a1 a2 n1 c1 ln c2 kerf k
  | 0, k, h => by
    obtain rfl : k = ln.length := by omega
    exact few_end a1 a2 n1 c1 ln c2 kerf
  | d + 1, k, h => few_step a1 a2 n1 c1 ln c2 kerf k (by omega) hll hln hke (Lib.hid (few_all a1 a2 n1 c1 ln c2 kerf hll hln hke d (k + 1) (by omega)))
theorem few_any (a1 a2 : Option Addr) (n1 c1 : Nat) (ln : List Int) (c2 : Nat) (kerf : Int) (hll : ln.length ≤ 1000) (hln : ∀ m ∈ ln, 0 ≤ m ∧ m ≤ 600000) (hke : 0 ≤ kerf ∧ kerf ≤ 10000) : FewAt a1 a2 n1 c1 ln c2 kerf 0 := few_all a1 a2 n1 c1 ln c2 kerf hll hln hke ln.length 0 (by omega)
end Go.Proofs.Ytoelfalmmaddlaa
