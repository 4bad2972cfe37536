/- Crosscuts: the check, the bars from the longest on, the least number of bars. -/
import Derived.Test.YtepiapgcpoifpaaGreatL1
import Derived.Test.YtepiapgcpoifpaaGreatG13
set_option linter.unusedVariables false
set_option linter.unusedSimpArgs false
namespace Go.Proofs.YtepiapgcpoifpaaGreat
open Go Go.RowKit Go.Sort Go.Lib

def barOk (n : Int) : Bool := withinB n 1 600000
def crossE (st ln : List Int) (kerf : Int) : Int := if 10 < st.length ∨ 10 < ln.length then 8 else if (st ++ ln).all barOk = false then 2 else if withinB kerf 0 10000 = false then 2 else 0
structure CB (W : World) (g : Nat) (a1 : Option Addr) (n1 c1 : Nat) (a2 : Option Addr) (n2 c2 : Nat) (kerf : Int) : Prop where
  s : W.cell? ⟨g, 0, none⟩ = some (.slice a1 n1 c1)
  l : W.cell? ⟨g, 1, none⟩ = some (.slice a2 n2 c2)
  k : W.cell? ⟨g, 2, none⟩ = some (.int .i64 kerf)
theorem CB.keep {W W' : World} {g : Nat} {a1 : Option Addr} {n1 c1 : Nat} {a2 : Option Addr} {n2 c2 : Nat} {kerf : Int} (h : CB W g a1 n1 c1 a2 n2 c2 kerf) (hb : Below W.heap.size W W') : CB W' g a1 n1 c1 a2 n2 c2 kerf := ⟨cell_keep hb h.s, cell_keep hb h.l, cell_keep hb h.k⟩
set_option maxRecDepth 100000 in
set_option maxHeartbeats 4000000 in
theorem checkCross_any (a1 a2 : Option Addr) (st ln : List Int) (c1 c2 : Nat) (kerf : Int) (w : World) (hv1 : IntsV w a1 st) (hv2 : IntsV w a2 ln) (hl1 : st.length ≤ 100000) (hl2 : ln.length ≤ 100000) :
    Calls Tryz.prog 71 #[.agg #[.slice a1 st.length c1, .slice a2 ln.length c2, .int .i64 kerf]] w fun e w' => e = .returned (.int .i64 (crossE st ln kerf)) ∧ Below w.heap.size w w' := by
  by_cases hbig : 10 < st.length ∨ 10 < ln.length
  · have HE := Lib.hid (show crossE st ln kerf = 8 by unfold crossE; rw [if_pos hbig])
    by_cases hb1 : 10 < st.length
    · have hb2 : (st.length : Int) > 10 := by omega
      go_enter Tryz.func71, Tryz.ntmps71
      go_wp2_with fail
      go_ret
      exact ⟨ret_int HE.out.symm, (Below.refl _ _).alloc (Nat.le_refl _) _⟩
    · have hb2 : ¬ (st.length : Int) > 10 := by omega
      have hb3 : (ln.length : Int) > 10 := by omega
      go_enter Tryz.func71, Tryz.ntmps71
      go_wp2_with fail
      go_ret
      exact ⟨ret_int HE.out.symm, (Below.refl _ _).alloc (Nat.le_refl _) _⟩
  · have hb1 : ¬ (st.length : Int) > 10 := by omega
    have hb2 : ¬ (ln.length : Int) > 10 := by omega
    have HE := Lib.hid (show crossE st ln kerf = if (st ++ ln).all barOk = false then 2 else if withinB kerf 0 10000 = false then 2 else 0 by unfold crossE; rw [if_neg hbig])
    have HLL := Lib.hid (show (st ++ ln).length ≤ 20 by rw [List.length_append]; omega)
    obtain ⟨al, hal⟩ : ∃ al, al = st ++ ln := ⟨_, rfl⟩
    rw [← hal] at HE HLL
    have HAL := Lib.hid hal
    clear hbig hal
    go_enter Tryz.func71, Tryz.ntmps71
    go_upto_region 3 with fail
    refine gen_world (fun W => CB W w.heap.size a1 st.length c1 a2 ln.length c2 kerf ∧ Below w.heap.size w W ∧ w.heap.size < W.heap.size) ⟨⟨by simp, by simp, by simp⟩, (Below.refl _ _).alloc (Nat.le_refl _) _, by simp⟩ ?_
    rintro W ⟨hC, hbW, hzW⟩
    have HC := Lib.hid hC
    have HBW := Lib.hid hbW
    obtain ⟨k0, k1, k2⟩ := hC
    clear hbW
    go_wp2_with (go_at_call 114; refine (concat_any W.heap.size a1 a2 st ln c1 c2 _ (by simp) (by simp) (intsV_keep hv1 (HBW.out.alloc HBW.out.size _)) (intsV_keep hv2 (HBW.out.alloc HBW.out.size _)) (by omega) (by omega)).mono ?_; rintro e w1 ⟨v, rfl, ho, hb⟩; rw [← HAL.out] at ho; have HB := Lib.hid (((Below.refl W.heap.size W).alloc (Nat.le_refl _) _).trans (hb.mono (by simp))); obtain ⟨a3, c3, rfl, hiv⟩ := own_ints' ho; have HIV := Lib.hid hiv; clear ho hb hiv)
    clear k0 k1 k2
    go_loopw [22] (fun iv wr => ∃ k : Nat, k ≤ al.length ∧ iv = .int .i64 k ∧ Hid (∀ j (hj : j < al.length), j < k → barOk al[j] = true) ∧ Below w1.heap.size w1 wr) (fun iv _ => al.length - (intOf iv).toNat)
    case atStart => exact ⟨0, Nat.zero_le _, rfl, Lib.hid (fun j _ h => by omega), Below.refl _ _⟩
    case round =>
      obtain ⟨k, hk, rfl, HK, hbr⟩ := hrel
      have HBW1 := Lib.hid (HBW.out.trans ((HB.out.trans (hbr.mono HB.out.size)).mono (Nat.le_of_lt hzW)))
      have hll := HLL.out
      by_cases hlt : k < al.length
      · obtain ⟨b, off, ha, hcl⟩ := intsV_keep HIV.out hbr (by rintro rfl; simp at hlt)
        have c0 := hcl k al[k] (List.getElem?_eq_getElem hlt)
        subst ha
        have HN := Lib.hid (fun h => all_no (p := barOk) hlt h)
        have HS := Lib.hid (fun h => all_step (p := barOk) hlt HK.out h)
        have hki : (k : Int) < (al.length : Int) := by omega
        clear HK hcl
        generalize al[k] = x at *
        cases hq : barOk x
        · have hr := Lib.hid (HN.out hq)
          have hq' := Lib.hid (show withinB x 1 600000 = false from hq)
          clear hq HN HS
          go_wp2_with (go_at_call 56; refine (cwithin_is _ _ _ _ hq'.out).mono ?_; rintro e w' ⟨rfl, rfl⟩)
          go_ret
          exact ⟨ret_int (by rw [HE.out, if_pos hr.out]), HBW1.out⟩
        · have hr := Lib.hid (HS.out hq)
          have hq' := Lib.hid (show withinB x 1 600000 = true from hq)
          clear hq HN HS
          go_wp2_with (go_at_call 56; refine (cwithin_is _ _ _ _ hq'.out).mono ?_; rintro e w' ⟨rfl, rfl⟩)
          go_roundw
          case rel => exact ⟨k + 1, by omega, by go_num, hr, hbr⟩
          case measure => simp [intOf]; omega
      · have HA := Lib.hid (all_yes (p := barOk) (by omega) HK.out)
        have hki : ¬ (k : Int) < (al.length : Int) := by omega
        obtain ⟨k0, k1, k2⟩ := HC.out.keep (HB.out.trans (hbr.mono HB.out.size))
        clear HK
        cases hq : withinB kerf 0 10000
        · have HQ := Lib.hid hq
          have HE2 := Lib.hid (show crossE st ln kerf = 2 by rw [HE.out, if_neg (by rw [HA.out]; decide), if_pos hq])
          clear hq
          go_wp2_with (go_at_call 56; refine (cwithin_is _ _ _ _ HQ.out).mono ?_; rintro e w' ⟨rfl, rfl⟩)
          go_ret
          exact ⟨ret_int HE2.out.symm, HBW1.out⟩
        · have HQ := Lib.hid hq
          have HE2 := Lib.hid (show crossE st ln kerf = 0 by rw [HE.out, if_neg (by rw [HA.out]; decide), if_neg (by rw [hq]; decide)])
          clear hq
          go_wp2_with (go_at_call 56; refine (cwithin_is _ _ _ _ HQ.out).mono ?_; rintro e w' ⟨rfl, rfl⟩)
          go_ret
          exact ⟨ret_int HE2.out.symm, HBW1.out⟩

/-- The stable sort of numbers of places by whatever compares them (fewer than twenty). -/
theorem sortStable_any (f : FuncId) (caps : Array Value) (n : Nat) [Inhabited (Ix n)] (cf : Ix n → Ix n → Int) (blk cap : Nat) (d : Array (Ix n)) (w : World) (eg : ∀ args w, (callFunc f args).run Tryz.prog w = .ok (.enter f args) w)
    (hlay : CmpLays1 Tryz.prog f caps (encI n) cf blk 0 d.size w) (hlt : blk < w.heap.size) (hH : Holds (encI n) w blk 0 d) (hd : d.size < 20) :
    Calls Tryz.prog 80 #[.slice (some ⟨blk, 0, none⟩) d.size cap, .func (.func f) #[] caps] w
      fun e w' => e = .returned (.tuple #[]) ∧ Go.Proofs.SW (encI n) w blk 0 (Sort.insertionSort (ltOf cf) d 0 d.size) w' := by
  have hS : Go.Proofs.SW (encI n) w blk 0 d w := Go.Proofs.SW.start hH
  have HC : Hid (Calls Tryz.prog 157 #[.slice (some ⟨blk, 0, none⟩) d.size cap, .int .i64 0, .int .i64 d.size, .func (.func f) #[] caps] w fun e w' => e = .returned (.tuple #[]) ∧ Go.Proofs.SW (encI n) w blk 0 (Sort.insertionSort (ltOf cf) d 0 d.size) w') :=
    Lib.hid (Tryz.insertionSortCmpFunc_s (encI n) cf f caps blk 0 cap 0 d.size d d w w eg hlay ⟨fun _ => rfl, hH, hlt⟩ rfl hS (Nat.zero_le _) (Nat.le_refl _) (by omega))
  have hn : (d.size : Int) < 20 := by omega
  clear hH hS hlay eg
  generalize Go.Proofs.SW (encI n) w blk 0 (Sort.insertionSort (ltOf cf) d 0 d.size) = S at *
  generalize d.size = m at *
  have HB : Calls Tryz.prog 122 #[.slice (some ⟨blk, 0, none⟩) m cap, .int .i64 m, .func (.func f) #[] caps] w fun e w' => e = .returned (.tuple #[]) ∧ S w' := by
    go_enter Tryz.func122, Tryz.ntmps122
    go_wp2_with (first
      | (go_at_call 157; refine HC.out.mono ?_; rintro e w1 ⟨rfl, hs1⟩; have HS1 := Lib.hid hs1; clear hs1)
      | (with_reducible refine rounds_step ?_)
      | (with_reducible refine wp_loop_rounds 1 ?_))
    exact bodyPost_end (v := .tuple #[]) (by simp [results, Tryz.results122, go_sem]) rfl ⟨rfl, HS1.out⟩
  have HB := Lib.hid HB
  clear HC
  go_enter Tryz.func80, Tryz.ntmps80
  go_wp2_with (go_at_call 122; refine HB.out.mono ?_; rintro e w1 ⟨rfl, hs1⟩; have HS1 := Lib.hid hs1; clear hs1)
  exact bodyPost_end (v := .tuple #[]) (by simp [results, Tryz.results80, go_sem]) rfl ⟨rfl, HS1.out⟩
section
variable {α β : Type} [Inhabited α] [Inhabited β] (f : α → β) (lt : β → β → Bool)
theorem posL_map (pre : List α) (x : α) : ∀ k, k ≤ pre.length → posL (fun a b => lt (f a) (f b)) pre x k = posL lt (pre.map f) (f x) k
  | 0, _ => rfl
  | k + 1, h => by
    have e : (pre.map f).getD k default = f (pre.getD k default) := by
      simp only [List.getD_eq_getElem?_getD]
      rw [List.getElem?_map, List.getElem?_eq_getElem (by omega : k < pre.length)]; rfl
    unfold posL
    rw [e, posL_map pre x k (by omega)]
theorem insL_mapf (pre : List α) (x : α) : (insL (fun a b => lt (f a) (f b)) pre x).map f = insL lt (pre.map f) (f x) := by
  unfold insL
  rw [posL_map f lt pre x _ (Nat.le_refl _)]
  simp [List.map_take, List.map_drop]
theorem sortL_mapf : ∀ (r acc : List α), (sortL (fun a b => lt (f a) (f b)) r acc).map f = sortL lt (r.map f) (acc.map f)
  | [], _ => rfl
  | x :: r, acc => by rw [sortL, sortL_mapf, insL_mapf]; rfl
end
end Go.Proofs.YtepiapgcpoifpaaGreat
