/- Species for all boards of a job; the boards that fit a piece. TopSoundWood returns true for every input: each piece of the greedy plan lies on wood that chapter 2 calls sound, on a board that chapter 2 finds fit for its blank. No condition. -/
import Derived.Test.YtdmoiepafkbefaaGreatTS
import Derived.Test.YtdmoiepafkbefaaGreatFactsTopSoundWood
set_option linter.unusedVariables false
set_option linter.unusedSimpArgs false
namespace Go.Proofs.YtdmoiepafkbefaaGreat
open Go Go.RowKit

def mkSp (n : ByteArray) : Species := ⟨n, 0, 0, 0, 700, 9000, 70⟩
def woodsTo (st : List Board) : Nat → List Species
  | 0 => []
  | k + 1 => if 0 ≤ idxOf (nameIs (st.getD k default).species) (woodsTo st k) then woodsTo st k else woodsTo st k ++ [mkSp (st.getD k default).species]
theorem woods_len (st : List Board) : ∀ k, (woodsTo st k).length ≤ k
  | 0 => Nat.le_refl _
  | k + 1 => by
    have := woods_len st k
    rw [woodsTo]
    split
    · omega
    · rw [List.length_append]; simp; omega
theorem woods_find (st : List Board) : ∀ k i, i < k → 0 ≤ idxOf (nameIs (st.getD i default).species) (woodsTo st k)
  | 0, i, h => by omega
  | k + 1, i, h => by
    rw [woodsTo]
    by_cases e : i = k
    · subst e
      split
      · assumption
      · rw [idxOf_nonneg, List.any_append]
        simp [mkSp, nameIs]
    · have ih := woods_find st k i (by omega)
      split
      · exact ih
      · rw [idxOf_nonneg] at ih ⊢
        rw [List.any_append, ih]; rfl
theorem spGo_snoc {s : Species} (hs : speciesErr s = 0) : ∀ (l : List Species) (pre : List ByteArray), spGo pre l = 0 → ((pre ++ l.map (·.name)).any fun t => s.name.toList == t.toList) = false → spGo pre (l ++ [s]) = 0
  | [], pre, _, h => by
    rw [List.nil_append, spGo, if_neg (by simp [hs]), if_neg (by simpa using h), spGo]
  | x :: l, pre, h0, h => by
    rw [List.cons_append, spGo]
    rw [spGo] at h0
    split at h0
    · rename_i h1; exact absurd h0 h1
    · rename_i h1
      split at h0
      · cases h0
      · rename_i h2
        rw [if_neg h1, if_neg h2]
        refine spGo_snoc hs l _ h0 ?_
        rw [List.map_cons] at h
        rw [List.append_assoc]
        exact h
theorem sp_ok {n : ByteArray} (h : nameB n = true) : speciesErr (mkSp n) = 0 := by
  simp [speciesErr, mkSp, h, withinB]
theorem woods_go {st : List Board} (hn : ∀ b ∈ st, nameB b.species = true) : ∀ k, k ≤ st.length → spGo [] (woodsTo st k) = 0
  | 0, _ => rfl
  | k + 1, hk => by
    have ih := woods_go hn k (by omega)
    rw [woodsTo]
    split
    · exact ih
    · rename_i h
      have hm : st.getD k default ∈ st := by rw [List.getD_eq_getElem?_getD, List.getElem?_eq_getElem (by omega)]; exact List.getElem_mem _
      refine spGo_snoc (sp_ok (hn _ hm)) _ _ ih ?_
      rw [idxOf_nonneg] at h
      rw [List.nil_append, List.any_map]
      simp only [Bool.not_eq_true] at h
      rw [List.any_eq_false] at h ⊢
      intro x hx
      have := h x hx
      simp only [nameIs, Function.comp, mkSp, beq_iff_eq] at this ⊢
      exact fun e => this e.symm
theorem boards_names {b : Board} (h : boardErr b = 0) : nameB b.species = true := by
  unfold boardErr at h
  split at h
  · cases h
  · rename_i h1
    simp only [not_or, Bool.not_eq_false] at h1
    exact h1.2
theorem st_same {l : List Species} : ∀ (st : List Board) (pre : List ByteArray), (∀ b ∈ st, 0 ≤ idxOf (nameIs b.species) l) → stGo l pre st = jbGo pre st
  | [], _, _ => rfl
  | b :: st, pre, h => by
    have hl : listedE l b = boardErr b := by
      unfold listedE
      have := h b List.mem_cons_self
      split
      · rfl
      · rename_i h1; rw [if_neg (by omega)]; exact (Decidable.not_not.1 h1).symm
    rw [stGo, jbGo, hl, st_same st _ fun x hx => h x (List.mem_cons_of_mem _ hx)]
theorem stockE_ok {j : Job} (h : jobE j = 0) (h40 : j.stock.length ≤ 40) : checkStockE (woodsTo j.stock j.stock.length) j.stock = 0 := by
  have hp := jobE_parts h
  have hw := woods_len j.stock j.stock.length
  have hg := woods_go (fun b hb => boards_names (hp.boards b hb)) j.stock.length (Nat.le_refl _)
  have hc : checkSpecies (woodsTo j.stock j.stock.length) = 0 := by unfold checkSpecies; rw [if_neg (by omega)]; exact hg
  unfold checkStockE
  rw [if_neg (by rw [hc]; simp), if_neg (by have := hp.lenS; omega), st_same _ _ fun b hb => by
    obtain ⟨i, hi, rfl⟩ := List.getElem_of_mem hb
    have := woods_find j.stock j.stock.length i hi
    rwa [List.getD_eq_getElem?_getD, List.getElem?_eq_getElem hi] at this]
  unfold jobE at h
  split at h
  · cases h
  · split at h
    · rename_i h1; exact absurd h h1
    · rename_i h1; exact Decidable.not_not.1 h1
theorem bk_ok : ∀ (l : List Blank) (pre : List ByteArray), bkGo pre l = 0 → ∀ x ∈ l, (nameB x.name = true ∧ nameB x.species = true) ∧ rngB x = true
  | [], _, _, x, hx => by simp at hx
  | b :: l, pre, h, x, hx => by
    rw [bkGo] at h
    split at h
    · cases h
    · rename_i h1
      split at h
      · cases h
      · split at h
        · cases h
        · rename_i h3
          rcases List.mem_cons.1 hx with rfl | hx
          · rw [Bool.not_eq_false, Bool.and_eq_true] at h1
            rw [Bool.not_eq_false] at h3
            exact ⟨h1, h3⟩
          · exact bk_ok l _ h x hx
theorem blank_okJ {j : Job} (h : jobE j = 0) {x : Blank} (hx : x ∈ j.blanks) : blankErr x = 0 := by
  have hb := (jobE_parts h).blanks
  unfold checkBlanksE at hb
  split at hb
  · cases hb
  · obtain ⟨⟨h1, h2⟩, h3⟩ := bk_ok _ _ hb x hx
    unfold blankErr
    rw [if_neg (by rw [h1, h2]; simp)]
    unfold rngB at h3
    simp only [Bool.and_eq_true] at h3
    rw [if_neg (by simp [h3])]
theorem psound_same {ds : List Rect} {r : Rect} (hd : ∀ d ∈ ds, d.x1 < d.x2 ∧ d.y1 < d.y2) (h1 : r.x1 < r.x2) (h2 : r.y1 < r.y2) : psound ds r = soundB ds r := by
  unfold psound soundB
  rw [Bool.eq_iff_iff, Bool.not_eq_true', Bool.not_eq_true', List.any_eq_false, List.any_eq_false]
  refine forall_congr' fun d => forall_congr' fun hd' => ?_
  have := hd d hd'
  unfold overlapB overlapsB
  simp only [decide_eq_true_eq, Bool.and_eq_true]
  omega
/-- A piece that lies well on a board: the board fits it. -/
theorem fit_one {j : Job} {p : Placed} (h : jobE j = 0) (hp : PieceIn j p) (hi : p.board.toNat < j.stock.length) (hl : p.blank.toNat < j.blanks.length) :
    fitOne j.blanks[p.blank.toNat] j.stock[p.board.toNat] = true ∧ soundE j.stock[p.board.toNat] p.at_ = 0 ∧ soundV j.stock[p.board.toNat] p.at_ = true := by
  have hkind := hp.kind
  have hsize := hp.size
  have hin := hp.inside
  have hso := hp.sound
  have e1 : j.stock.getD p.board.toNat default = j.stock[p.board.toNat] := by rw [List.getD_eq_getElem?_getD, List.getElem?_eq_getElem hi]; rfl
  have e2 : bl j.blanks p.blank.toNat = j.blanks[p.blank.toNat] := by unfold bl; rw [List.getD_eq_getElem?_getD, List.getElem?_eq_getElem hl]; rfl
  rw [e1, e2] at hkind
  rw [e2] at hsize
  rw [e1] at hin hso
  have hb := (jobE_parts h).boards _ (List.getElem_mem hi)
  have hJ := jobOk_of h
  have htr := hJ.trim
  have hbs := hJ.size _ (List.getElem_mem hi)
  generalize j.blanks[p.blank.toNat] = x at *
  generalize j.stock[p.board.toNat] = b at *
  have hok := tboardErr_ok hb
  have hdi := boardOk_in hok
  have hus : usableR b j.trim = ⟨j.trim.ends, j.trim.sides, b.length - j.trim.ends, b.width - j.trim.sides⟩ := by
    unfold usableR wholeR
    split
    · rename_i hz
      unfold usableR wholeR at hin
      rw [if_pos hz] at hin
      unfold within at hin
      simp only at hin
      omega
    · rfl
  rw [hus] at hin
  unfold within at hin
  simp only at hin
  have hps : psound b.defects p.at_ = true := by rw [psound_same (fun d hd => by have := hdi.ins d hd; omega) (by omega) (by omega)]; exact hso
  obtain ⟨g1, g2⟩ := wid_best (b := b) (len := x.length) (o := p.at_) hdi (by omega) (by omega) (by omega) (by omega) (by omega) hsize.1 hps
  unfold kindOk at hkind
  rw [Bool.and_eq_true, decide_eq_true_eq] at hkind
  have hse : soundE b p.at_ = 0 := by
    unfold soundE
    rw [if_neg (by rw [hb]; simp)]
    unfold rectIn
    rw [if_neg (by omega), if_neg (by omega)]
  refine ⟨?_, hse, ?_⟩
  · unfold fitOne
    rw [hkind.1, g1, decide_eq_true hkind.2, decide_eq_true (by omega), decide_eq_true (by omega)]
    rfl
  · unfold soundV
    rw [if_neg (by rw [hse]; simp)]
    exact hps
theorem fitK_mem {st : List Board} {x : Blank} : ∀ {k i : Nat}, i < k → (hi : i < st.length) → fitOne x st[i] = true → (i : Int) ∈ fitK st x k
  | 0, i, h, _, _ => by omega
  | k + 1, i, h, hi, hf => by
    rw [fitK, List.mem_append]
    by_cases e : i = k
    · subst e
      right
      rw [List.getElem?_eq_getElem hi]
      simp [hf]
    · exact .inl (fitK_mem (by omega) hi hf)

def cellsSp (s : Species) : List Value := [.string s.name, .int .i64 s.along, .int .i64 s.across, .int .i64 s.radial, .int .i64 s.density, .int .i64 s.stiffness, .int .i64 s.strength]
theorem cellsSp_len (s : Species) : (cellsSp s).length = 7 := rfl
theorem cellsSp_one (s : Species) : ∀ u ∈ cellsSp s, u.oneCell' = true := by
  intro u hu
  simp only [cellsSp, List.mem_cons, List.not_mem_nil, or_false] at hu
  rcases hu with rfl | rfl | rfl | rfl | rfl | rfl | rfl <;> rfl
theorem species_info : (Tryz.prog.info? 137).map (fun i => (i.zero, i.size, i.bytes)) = some (some (.agg #[.string ⟨#[]⟩, .int .i64 0, .int .i64 0, .int .i64 0, .int .i64 0, .int .i64 0, .int .i64 0]), 7, 64) := by kernel_rfl
theorem own_species {w : World} {base e n c : Nat} {a : Option Addr} {l : List Species} (hw : ∀ s ∈ l, s.wf) (h : w.ownsRow base e 7 (.slice a n c) n (l.flatMap cellsSp)) : Speciess.V w a l :=
  own_rowV cellsSp_len (by decide) (fun b o x hx hc => ⟨hc 0 _ rfl, hc 1 _ rfl, hc 2 _ rfl, hc 3 _ rfl, hc 4 _ rfl, hc 5 _ rfl, hc 6 _ rfl, hw x hx⟩) h
theorem woods_mem {st : List Board} : ∀ {k : Nat} {s : Species}, k ≤ st.length → s ∈ woodsTo st k → ∃ b ∈ st, s = mkSp b.species
  | 0, s, _, h => by simp [woodsTo] at h
  | k + 1, s, hk, h => by
    rw [woodsTo] at h
    split at h
    · exact woods_mem (by omega) h
    · rcases List.mem_append.1 h with h | h
      · exact woods_mem (by omega) h
      · exact ⟨st.getD k default, by rw [List.getD_eq_getElem?_getD, List.getElem?_eq_getElem (by omega)]; exact List.getElem_mem _, by simpa using h⟩
theorem woods_wf {st : List Board} (hw : ∀ b ∈ st, b.species.size ≤ 9223372036854775807) {k : Nat} (hk : k ≤ st.length) : ∀ s ∈ woodsTo st k, s.wf := fun s hs => by
  obtain ⟨b, hb, rfl⟩ := woods_mem hk hs
  refine ⟨hw b hb, ?_, ?_, ?_, ?_, ?_, ?_⟩ <;> simp [mkSp]
theorem woods_yes {st : List Board} {k : Nat} (hk : k < st.length) (h : 0 ≤ idxOf (nameIs st[k].species) (woodsTo st k)) : woodsTo st (k + 1) = woodsTo st k := by
  have e : st.getD k default = st[k] := by rw [List.getD_eq_getElem?_getD, List.getElem?_eq_getElem hk]; rfl
  rw [woodsTo, e, if_pos h]
theorem woods_no {st : List Board} {k : Nat} (hk : k < st.length) (h : ¬ 0 ≤ idxOf (nameIs st[k].species) (woodsTo st k)) : woodsTo st (k + 1) = woodsTo st k ++ [mkSp st[k].species] := by
  have e : st.getD k default = st[k] := by rw [List.getD_eq_getElem?_getD, List.getElem?_eq_getElem hk]; rfl
  rw [woodsTo, e, if_neg h]
set_option maxRecDepth 100000 in
set_option maxHeartbeats 4000000 in
theorem woods_any (j : Job) (a1 : Option Addr) (c1 : Nat) (a2 : Option Addr) (c2 : Nat) (w : World) (hs : Boards.V w a1 j.stock) (hN : j.stock.length ≤ 100) :
    Calls Tryz.prog 36 #[.agg #[.slice a1 j.stock.length c1, .slice a2 j.blanks.length c2, .int .i64 j.trim.kerf, .int .i64 j.trim.ends, .int .i64 j.trim.sides]] w fun e w' => ∃ (a : Option Addr) (c : Nat), e = .returned (.slice a (woodsTo j.stock j.stock.length).length c) ∧ Speciess.V w' a (woodsTo j.stock j.stock.length) ∧ Below w.heap.size w w' := by
  obtain ⟨AD, CD, hSC⟩ := stock_ch hs
  have HSC := Lib.hid hSC
  obtain ⟨i0, hi0, hz0, hz1, hz2⟩ := info_parts species_info
  have HWF := Lib.hid (show ∀ b ∈ j.stock, b.species.size ≤ 9223372036854775807 from fun b hb => by
    obtain ⟨i, hi, rfl⟩ := List.getElem_of_mem hb
    exact (hSC.ch i _ (List.getElem?_eq_getElem hi)).2.2.2.2.2.1)
  clear hs hSC
  go_enter Tryz.func36, Tryz.ntmps36
  go_upto_region 1 with fail
  refine gen_world (fun W => JB W w.heap.size j a1 c1 a2 c2 ∧ Below w.heap.size w W ∧ w.heap.size < W.heap.size) ⟨⟨by simp [go_sem], by simp [go_sem], by simp [go_sem], by simp [go_sem], by simp [go_sem]⟩, by repeat (first | (with_reducible assumption) | exact Below.refl _ _ | (refine Below.setCell ?_ (by first | omega | (simp; omega) | (simp; done)) _) | (refine Below.alloc ?_ (by first | omega | (simp; omega) | (simp; done)) _) | (refine Below.drew ?_)), by simp⟩ ?_
  rintro W ⟨hC, hbW, hz⟩
  obtain ⟨gj, hgj⟩ : ∃ g, g = w.heap.size := ⟨_, rfl⟩
  have hzj : gj < W.heap.size := by omega
  rw [← hgj] at hC ⊢
  have HC := Lib.hid hC
  have HBW := Lib.hid hbW
  clear hbW hz hgj hC
  go_wp2_with fail
  go_loopw [3, 4] (fun v iv wr => ∃ k n : Nat, k ≤ j.stock.length ∧ iv = .int .i64 k ∧ Hid (n = (woodsTo j.stock k).length) ∧ Hid (wr.ownsRow W.heap.size 137 7 v n ((woodsTo j.stock k).flatMap cellsSp)) ∧ Below W.heap.size W wr) (fun _ iv _ => j.stock.length - (intOf iv).toNat)
  case atStart => exact ⟨0, 0, Nat.zero_le _, rfl, Lib.hid rfl, Lib.hid (World.ownsRow_nil _ _ _ _), Below.refl _ _⟩
  case round =>
    obtain ⟨k, n, hk, rfl, HN, HOW, hbr⟩ := hrel
    obtain ⟨av, cv, rfl, -, -⟩ := own_slice HOW.out
    obtain ⟨wo, rfl⟩ : ∃ wo : World, wo = wr := ⟨_, rfl⟩
    have HBO := Lib.hid hbr
    have HCO := Lib.hid (HC.out.keep hbr hzj)
    have hbw := HBW.out.trans (hbr.mono HBW.out.size)
    have hzo : W.heap.size ≤ wo.heap.size := hbr.size
    have hnk : n ≤ 100 := by have := woods_len j.stock k; rw [HN.out]; omega
    have HLV := Lib.hid (own_species (woods_wf HWF.out hk) HOW.out)
    clear hbr
    obtain ⟨q0, -, -, -, -⟩ := HCO.out
    by_cases hlt : k < j.stock.length
    · have hki : (k : Int) < (j.stock.length : Int) := by omega
      have v1 : IntKind.i64.wrap ((k : Int) + 1) = (k : Int) + 1 := IntWalk.i64_in _ (by omega)
      obtain ⟨⟨gs, off, has, hcb⟩, -⟩ := HSC.out.ch k _ (List.getElem?_eq_getElem hlt)
      subst has
      have s1 := (hcb.keep hbw).c1
      have HY := Lib.hid (fun h => woods_yes hlt h)
      have HNO := Lib.hid (fun h => woods_no hlt h)
      generalize j.stock[k].species = sp at *
      have HFD := Lib.hid (fun w9 hv => refFind_n av (woodsTo j.stock k) n cv sp w9 HN.out hv (by have := HN.out; omega))
      obtain ⟨f, hf⟩ : ∃ f, idxOf (nameIs sp) (woodsTo j.stock k) = f := ⟨_, rfl⟩
      rw [hf] at HFD HY HNO
      clear hcb hf
      by_cases hf0 : 0 ≤ f
      · have hfl : ¬ f < 0 := by omega
        have HW := Lib.hid (HY.out hf0)
        clear HY HNO
        go_wp2_with (go_at_call 72; refine (HFD.out _ HLV.out).mono ?_; rintro e w' ⟨rfl, rfl⟩)
        go_roundw
        case rel => exact ⟨k + 1, n, by omega, by go_num, Lib.hid (by rw [HW.out]; exact HN.out), Lib.hid (by rw [HW.out]; exact HOW.out), HBO.out⟩
        case measure => first | (simp [intOf]; done) | (simp [intOf]; omega)
      · have hfl : f < 0 := by omega
        have HW := Lib.hid (HNO.out hf0)
        clear HY HNO
        go_wp2_with (first
          | (go_at_call 72; refine (HFD.out _ HLV.out).mono ?_; rintro e w' ⟨rfl, rfl⟩)
          | (at_builtin; refine wpList_append_here _ rfl _ _ 90 rfl W.heap.size 137 i0 (.agg #[.string ⟨#[]⟩, .int .i64 0, .int .i64 0, .int .i64 0, .int .i64 0, .int .i64 0, .int .i64 0]) 7 64 Tryz.underlying90 hi0 hz0 hz1 hz2 rfl (by decide) _ n _ rfl (own_keep HOW.out ((Below.refl _ _).alloc (Nat.le_refl _) _)) ⟨wo.heap.size, 0, none⟩ 1 1 (cellsSp (mkSp sp)) rfl rfl (news_of (cellsSp (mkSp sp)) _ _ _ rfl) (cellsSp_one _) (by decide) (by simp only [maxLen]; omega) (by omega) (by simp; omega) ?_; intro v9 w9 ho9 hg9 hv9; have HO9 := Lib.hid ho9; have HG9 := Lib.hid hg9; clear ho9 hg9 hv9))
        go_roundw
        case rel =>
          refine ⟨k + 1, n + 1, by omega, by go_num, Lib.hid (by rw [HW.out, List.length_append, HN.out]; rfl), Lib.hid ?_, (HBO.out.alloc HBO.out.size _).grown HG9.out (by have := HBO.out.size; simp; omega) (fun q hq => own_base HOW.out hq)⟩
          rw [HW.out, List.flatMap_append, List.flatMap_singleton]; exact HO9.out
        case measure => first | (simp [intOf]; done) | (simp [intOf]; omega)
    · obtain rfl : k = j.stock.length := by omega
      have hki : ¬ ((j.stock.length : Nat) : Int) < ((j.stock.length : Nat) : Int) := by omega
      go_wp2_with fail
      go_ret
      have hn := HN.out
      subst hn
      exact ⟨av, ⟨cv, rfl⟩, HLV.out, hbw⟩
theorem has_step {l : List Int} {n : Int} {k : Nat} (h : n ∈ l.drop k) (hk : k < l.length) (hne : ¬ l[k] = n) : n ∈ l.drop (k + 1) := by
  rw [List.drop_eq_getElem_cons hk] at h
  rcases List.mem_cons.1 h with e | h
  · exact absurd e.symm hne
  · exact h
set_option maxHeartbeats 1000000 in
theorem has_yes (a : Option Addr) (l : List Int) (c : Nat) (n : Int) (w : World) (hv : IntsV w a l) (hl : l.length ≤ 1000000) (hm : n ∈ l) :
    Calls Tryz.prog 39 #[.slice a l.length c, .int .i64 n] w fun e w' => e = .returned (.bool true) ∧ Below w.heap.size w w' := by
  go_enter Tryz.func39, Tryz.ntmps39
  go_wp2_with fail
  go_loopw [5] (fun iv wr => ∃ k : Nat, k ≤ l.length ∧ iv = .int .i64 k ∧ Hid (n ∈ l.drop k) ∧ Below w.heap.size w wr) (fun iv _ => l.length - (intOf iv).toNat)
  case atStart => exact ⟨0, Nat.zero_le _, rfl, Lib.hid hm, Below.refl _ _⟩
  case round =>
    obtain ⟨k, hk, rfl, HM, hbr⟩ := hrel
    by_cases hlt : k < l.length
    · have hki : (k : Int) < (l.length : Int) := by omega
      have v1 : IntKind.i64.wrap ((k : Int) + 1) = (k : Int) + 1 := IntWalk.i64_in _ (by omega)
      obtain ⟨b, off, ha, hx⟩ := hv (by intro e; subst e; simp at hlt)
      subst ha
      have hc := cell_keep hbr (hx k _ (List.getElem?_eq_getElem hlt))
      have HS := Lib.hid (fun h => has_step HM.out hlt h)
      generalize l[k] = x at *
      by_cases he : x = n
      · have he2 : (x == n) = true := by simpa using he
        clear hx he HM
        go_wp2_with fail
        go_ret
        exact ⟨rfl, hbr⟩
      · have he2 : (x == n) = false := by simpa using he
        have HS2 := Lib.hid (HS.out he)
        clear hx he HM HS
        go_wp2_with fail
        go_roundw
        case rel => exact ⟨k + 1, by omega, by go_num, HS2, hbr⟩
        case measure => first | (simp [intOf]; done) | (simp [intOf]; omega)
    · have h := HM.out
      rw [List.drop_eq_nil_of_le (by omega)] at h
      simp at h
end Go.Proofs.YtdmoiepafkbefaaGreat

set_option linter.unusedVariables false
set_option linter.unusedSimpArgs false
namespace Go.Proofs.YtdmoiepafkbefaaGreat
open Go Go.ChangeShapes Go.WideShapes Go.ChangeAt Go.RowKit

theorem sawn_any (w : World) : Calls Tryz.prog 28 #[] w fun e w' => e = .returned (.bool true) ∧ Below w.heap.size w w' := by
  go_enter Tryz.func28, Tryz.ntmps28
  go_upto_region 3 with (first
    | (go_at_call 40; refine (desk_any _).mono ?_; rintro e w1 ⟨a1, c1, a2, c2, rfl, hs, hb, hbw⟩; have HS := Lib.hid hs; have HB := Lib.hid hb; have HB1 := Lib.hid hbw; clear hs hb hbw)
    | (go_at_call 26; refine (deskGreedy_any a1 c1 a2 c2 _ HS.out HB.out).mono ?_; rintro e w2 ⟨a3, c3, rfl, hbw⟩; have HB2 := Lib.hid (HB1.out.trans (hbw.mono HB1.out.size)); clear hbw)
    | (go_at_call 42; refine (deskLeast_any _ _ _ (intsV_keep (ints_new2 _ _ _ _ _ (by simp)) ((Below.refl _ _).alloc (Nat.le_refl _) _)) (ints_new3 _ _ _ _ _ _ (by simp))).mono ?_; rintro e w4 ⟨rfl, hbw⟩; have HB4 := Lib.hid (((HB2.out.alloc HB2.out.size _).alloc (by have := HB2.out.size; simp; omega) _).trans (hbw.mono (by have := HB2.out.size; simp; omega))); clear hbw))
  go_wp2_with fail
  go_ret
  exact ⟨rfl, HB4.out⟩
theorem planE_ok {j : Job} (h : jobE j = 0) : planE j = greedyM j.stock j.blanks j.trim := by unfold planE; rw [if_neg (by simp [h])]
theorem small_few {j : Job} (hs : smallB j = true) (h : jobE j = 0) : j.blanks.length < 20 := by
  have hp := (jobOk_of h).lenB
  have hl := smallB_lens hs
  unfold smallL at hl
  omega
theorem small_bd {j : Job} (hs : smallB j = true) (h : jobE j = 0) : j.stock.length ≤ 4 ∧ j.blanks.length ≤ 5 ∧ ∀ x ∈ j.blanks, x.count ≤ 6 := by
  have hJ := jobOk_of h
  have hp := hJ.lenB
  have hq := hJ.lenS
  have hl := smallB_lens hs
  unfold smallL at hl
  refine ⟨by omega, by omega, fun x hx => ?_⟩
  unfold smallB at hs
  rw [Bool.and_eq_true, Bool.and_eq_true] at hs
  have hb := List.all_eq_true.1 hs.2.2 x hx
  unfold blankSm at hb
  rw [Bool.not_eq_true', Bool.eq_false_iff] at hb
  simp only [ne_eq, Bool.or_eq_true, Bool.and_eq_true, decide_eq_true_eq] at hb
  have := (hJ.want x hx).2
  omega
theorem run_good {stock : List Board} {blanks : List Blank} {kerf : Int} (hf : 0 ≤ kerf) (hw : ∀ x ∈ blanks, 0 < x.length ∧ 0 < x.width) : ∀ (seq : List Nat) (B : Nat) (L L' : List BS), (∀ i ∈ seq, i < blanks.length) → GoodL B L → L.length = stock.length → runM kerf stock blanks seq L = some L' → GoodL (B + 6 * seq.length) L'
  | [], B, L, L', _, hL, _, h => by unfold runM at h; injection h with h; subst h; simpa using hL
  | i :: seq, B, L, L', hi, hL, hl, h => by
    unfold runM at h
    split at h
    · rename_i L1 h1
      have hb : bl blanks i ∈ blanks := by unfold bl; rw [List.getD_eq_getElem?_getD, List.getElem?_eq_getElem (hi i List.mem_cons_self)]; exact List.getElem_mem _
      obtain ⟨g1, g2⟩ := good_putAll hL hl hf (hw _ hb).1 (hw _ hb).2 h1
      have := run_good hf hw seq (B + 6) L1 L' (fun x hx => hi x (List.mem_cons_of_mem _ hx)) g1 g2 h
      rw [List.length_cons, show B + 6 * (seq.length + 1) = B + 6 + 6 * seq.length by omega]
      exact this
    · cases h
theorem outGo_none : ∀ (L : List BS) (i : Nat) (acc : List (Nat × List Cut)), outGo i L acc = none → ∃ s ∈ L, 400 < s.cuts.length
  | [], i, acc, h => by unfold outGo at h; cases h
  | s :: L, i, acc, h => by
    unfold outGo at h
    split at h
    · exact ⟨s, List.mem_cons_self, by assumption⟩
    · obtain ⟨t, ht, h2⟩ := outGo_none L _ _ h
      exact ⟨t, List.mem_cons_of_mem _ ht, h2⟩
theorem flatLen (f : Nat → Nat) (n : Nat) : ∀ (l : List Nat), (∀ i ∈ l, f i ≤ n) → (l.flatMap fun i => List.replicate (f i) i).length ≤ n * l.length
  | [], _ => by simp
  | i :: l, h => by
    have h1 := flatLen f n l fun x hx => h x (List.mem_cons_of_mem _ hx)
    have h2 := h i List.mem_cons_self
    rw [List.flatMap_cons, List.length_append, List.length_replicate, List.length_cons, Nat.mul_add]
    omega
theorem greedy_code {j : Job} (hs : smallB j = true) (h : jobE j = 0) : (greedyM j.stock j.blanks j.trim).2 = 0 ∨ (greedyM j.stock j.blanks j.trim).2 = 12 := by
  obtain ⟨h4, h5, h6⟩ := small_bd hs h
  have hJ := jobOk_of h
  have hlen : (seqM j.blanks).length ≤ 30 := by
    have hp := orderM_perm (l := j.blanks)
    have hl := hp.length_eq
    rw [List.length_range] at hl
    have := flatLen (fun i => (bl j.blanks i).count.toNat) 6 (orderM j.blanks) fun i hi => by
      have hi2 := List.mem_range.1 (hp.mem_iff.1 hi)
      have hb : bl j.blanks i ∈ j.blanks := by unfold bl; rw [List.getD_eq_getElem?_getD, List.getElem?_eq_getElem hi2]; exact List.getElem_mem _
      have := h6 _ hb
      omega
    unfold seqM
    omega
  unfold greedyM
  split
  · right; rfl
  · rename_i L hL
    split
    · rename_i hn
      obtain ⟨s, hs1, hs2⟩ := outGo_none _ _ _ hn
      have hg := run_good hJ.trim.1.1 (fun x hx => by have := (hJ.want x hx).1; omega) (seqM j.blanks) 1 _ _ (fun i hi => seq_lt hi) (good_start (fun b hb => by have := hJ.size b hb; omega) hJ.trim.2.1.1 hJ.trim.2.2.1) (by unfold startM; simp) hL
      have := (hg.good s hs1).2
      omega
    · left; rfl
theorem greedy_plan {j : Job} (hE : jobE j = 0) {r : List (Nat × List Cut)} (hg : greedyM j.stock j.blanks j.trim = (r, 0)) : (planL r).length ≤ 1000 ∧ (∀ l ∈ planL r, l.cuts.length ≤ 100000) ∧ (planE2 j (planL r)).2 = 0 := by
  obtain ⟨h1, h2⟩ := greedy_accepted hE hg
  have h3 := (jobOk_of hE).lenS
  obtain ⟨-, hlay, -⟩ := plan_parts (j := j) (plan := planL r) (by rw [h1])
  refine ⟨by unfold planL; rw [List.length_map]; omega, fun l hl => ?_, by rw [h1]⟩
  have h4 := layGo_ok hlay l hl
  have := (lay_okR hE h4.1 h4.2).2.1
  omega
structure PlaceT (j : Job) (p : Placed) : Prop where
  inn : PieceIn j p
  near : near p.at_
theorem CellsB.ofAt {W : World} {g o : Nat} {x : Blank} (h : Blank.at W g o x) : CellsB W g o x ∧ x.wf := ⟨⟨h.1, h.2.1, h.2.2.1, h.2.2.2.1, h.2.2.2.2.1, h.2.2.2.2.2.1⟩, h.2.2.2.2.2.2⟩
set_option maxRecDepth 100000 in
set_option maxHeartbeats 16000000 in
theorem walkTopSoundWood (j : Job) (ja1 : Option Addr) (jc1 : Nat) (ja2 : Option Addr) (jc2 : Nat) (w : World) (VSj : Boards.V w ja1 j.stock) (LSj : j.stock.length ≤ 9223372036854775807) (CSj : j.stock.length ≤ jc1) (VBj : Blanks.V w ja2 j.blanks) (LBj : j.blanks.length ≤ 9223372036854775807) (CBj : j.blanks.length ≤ jc2) (WTj : j.trim.wf) :
    Calls Tryz.prog 7 #[.agg #[.slice ja1 j.stock.length jc1, .slice ja2 j.blanks.length jc2, .int .i64 j.trim.kerf, .int .i64 j.trim.ends, .int .i64 j.trim.sides]] w fun e w' => e = .returned (.bool true) ∧ Below w.heap.size w w' := by
  have HVS := Lib.hid VSj
  have HVB := Lib.hid VBj
  clear VSj VBj
  go_enter Tryz.func7, Tryz.ntmps7
  go_upto_region 1 with fail
  refine gen_world (fun W => JB W w.heap.size j ja1 jc1 ja2 jc2 ∧ Below w.heap.size w W ∧ w.heap.size < W.heap.size) ⟨⟨by simp, by simp, by simp, by simp, by simp⟩, (Below.refl _ _).alloc (Nat.le_refl _) _, by simp⟩ ?_
  rintro W ⟨hC, hbW, hzW⟩
  obtain ⟨gj, hgj⟩ : ∃ g, g = w.heap.size := ⟨_, rfl⟩
  rw [← hgj] at hC ⊢
  have hzG : gj < W.heap.size := by omega
  have HC := Lib.hid hC
  have HBW := Lib.hid (show Below w.heap.size w W from hbW)
  have HZW := Lib.hid (show w.heap.size ≤ W.heap.size by omega)
  clear hC hbW hzW hgj
  go_upto_region 3 with (go_at_call 28; refine (sawn_any _).mono ?_; rintro e w1 ⟨rfl, hb1⟩; have HB1 := Lib.hid hb1; clear hb1)
  have HC1 := Lib.hid (HC.out.keep HB1.out hzG)
  have HBW1 := Lib.hid (HBW.out.trans (HB1.out.mono HZW.out))
  have hzw1 : gj < w1.heap.size := Nat.lt_of_lt_of_le hzG HB1.out.size
  clear HC HBW HB1 hzG HZW
  obtain ⟨k0, k1, k2, k3, k4⟩ := HC1.out
  cases hsm : smallB j
  · have HSM := Lib.hid hsm
    clear hsm
    go_wp2_with (go_at_call 9; refine (small_is j ja1 jc1 ja2 jc2 _ HSM.out (HVS.out.keep HBW1.out) LSj (HVB.out.keep HBW1.out) LBj).mono ?_; rintro e w2 ⟨rfl, hb⟩; have HB2 := Lib.hid (HBW1.out.trans (hb.mono HBW1.out.size)); clear hb)
    go_ret
    exact ⟨rfl, HB2.out⟩
  have HSM := Lib.hid hsm
  clear hsm
  obtain ⟨EJ, hEJ⟩ : ∃ E, jobE j = E := ⟨_, rfl⟩
  have HE := Lib.hid hEJ
  clear hEJ
  by_cases hE0 : ¬ EJ = 0
  · have hne := bne_t5 hE0
    clear hE0
    go_wp2_with (first
      | (go_at_call 9; refine (small_is j ja1 jc1 ja2 jc2 _ HSM.out (HVS.out.keep HBW1.out) LSj (HVB.out.keep HBW1.out) LBj).mono ?_; rintro e w2 ⟨rfl, hb⟩; have HB2 := Lib.hid (HBW1.out.trans (hb.mono HBW1.out.size)); have HC2 := Lib.hid (HC1.out.keep hb hzw1); have k0 := HC2.out.s; have k1 := HC2.out.b; have k2 := HC2.out.k; have k3 := HC2.out.e; have k4 := HC2.out.d; clear hb)
      | (go_at_call 20; refine (refCheckJob_any j ja1 jc1 ja2 jc2 _ (HVS.out.keep HB2.out) LSj (HVB.out.keep HB2.out) LBj).mono ?_; rw [HE.out]; rintro e w4 ⟨rfl, hb⟩; have HB4 := Lib.hid (HB2.out.trans (hb.mono HB2.out.size)); clear hb))
    go_ret
    exact ⟨rfl, HB4.out⟩
  obtain rfl : EJ = 0 := Decidable.not_not.1 hE0
  clear hE0
  go_upto_region 5 with (first
    | (go_at_call 9; refine (small_is j ja1 jc1 ja2 jc2 _ HSM.out (HVS.out.keep HBW1.out) LSj (HVB.out.keep HBW1.out) LBj).mono ?_; rintro e w2 ⟨rfl, hb⟩; have HB2 := Lib.hid (HBW1.out.trans (hb.mono HBW1.out.size)); have HC2 := Lib.hid (HC1.out.keep hb hzw1); have k0 := HC2.out.s; have k1 := HC2.out.b; have k2 := HC2.out.k; have k3 := HC2.out.e; have k4 := HC2.out.d; have hz2 := hb.size; clear hb)
    | (go_at_call 20; refine (refCheckJob_any j ja1 jc1 ja2 jc2 _ (HVS.out.keep HB2.out) LSj (HVB.out.keep HB2.out) LBj).mono ?_; rw [HE.out]; rintro e w3 ⟨rfl, hb⟩; have HB3 := Lib.hid (HB2.out.trans (hb.mono HB2.out.size)); have HC3 := Lib.hid (HC2.out.keep hb (by omega)); have hz3 := hb.size; clear hb))
  have hzw3 : gj < w3.heap.size := by omega
  clear k0 k1 k2 k3 k4 HC1 HBW1 HB2 HC2 hz2 hz3 hzw1
  obtain ⟨k0, k1, k2, k3, k4⟩ := HC3.out
  obtain ⟨q, hq⟩ : ∃ q, planE j = q := ⟨_, rfl⟩
  have HX := Lib.hid (fun w9 hs hb => greedyX_any j ja1 jc1 ja2 jc2 w9 hs LSj hb LBj (small_few HSM.out))
  rw [hq] at HX
  have HQ := Lib.hid ((planE_ok HE.out).symm.trans hq)
  have HCD := Lib.hid (show q.2 = 0 ∨ q.2 = 12 by rw [← HQ.out]; exact greedy_code HSM.out HE.out)
  clear hq
  obtain ⟨ql, qe⟩ := q
  go_upto_region 6 with (go_at_call 26; refine (HX.out _ (HVS.out.keep HB3.out) (HVB.out.keep HB3.out)).mono ?_; rintro e w4 ⟨a3, c3, rfl, hv, hc3, hm3, hb⟩; have HV4 := Lib.hid hv; have HB4 := Lib.hid (HB3.out.trans (hb.mono HB3.out.size)); have HC4 := Lib.hid (HC3.out.keep hb hzw3); have hz4 := hb.size; clear hv hb hc3 hm3)
  have hzw4 : gj < w4.heap.size := by omega
  clear k0 k1 k2 k3 k4 HC3 HB3 hz4 hzw3 HX
  by_cases hqe : ¬ qe = 0
  · have h12 : qe = 12 := by rcases HCD.out with h | h; exact absurd h hqe; exact h
    subst h12
    clear hqe
    go_wp2_with fail
    go_ret
    exact ⟨rfl, HB4.out⟩
  obtain rfl : qe = 0 := Decidable.not_not.1 hqe
  clear hqe HCD
  obtain ⟨hpl, hcu, hpz⟩ := greedy_plan HE.out HQ.out
  have hlen4 : ql.length = (planL ql).length := by simp [planL]
  have HLEN := Lib.hid hlen4
  have HPV := Lib.hid (show Layouts.V w4 a3 (planL ql) from HV4.out)
  have HQ2 := Lib.hid (fun w9 hs hb hp => placesP_any j (planL ql) ja1 jc1 ja2 jc2 a3 c3 w9 hs LSj hb LBj hp hpl hcu)
  have HPP := Lib.hid (And.intro (plan_parts hpz) (plan_sound hpz))
  rw [hpz] at HQ2
  generalize planL ql = plan at *
  clear hcu hpz hlen4 HV4
  obtain ⟨k0, k1, k2, k3, k4⟩ := HC4.out
  go_upto_region 9 with (go_at_call 12; (try simp only [HLEN.out]); refine (HQ2.out _ (HVS.out.keep HB4.out) (HVB.out.keep HB4.out) HPV.out).mono ?_; rintro e w6 ⟨a6, n6, c6, rfl, hb, -, h7⟩; have HB6 := Lib.hid (HB4.out.trans (hb.mono HB4.out.size)); have HC6 := Lib.hid (HC4.out.keep hb hzw4); have hz6 := hb.size; have HE7 := Lib.hid h7; clear hb h7)
  obtain ⟨hn6, hv6⟩ := HE7.out (by first | trivial | rfl)
  subst hn6
  have HV6 := Lib.hid hv6
  have hzw6 : gj < w6.heap.size := by omega
  obtain ⟨⟨hej, hlay, -⟩, hln, hin, hpw⟩ := HPP.out
  have HJO := Lib.hid (jobOk_of hej)
  have HS := Lib.hid (show ∀ p ∈ placesM j plan, PlaceT j p from fun p hp => ⟨hin p hp, (placesTo_ok hej (layGo_ok hlay) plan.length (Nat.le_refl _) p hp).2.2⟩)
  have HLN := Lib.hid hln
  have HLP := Lib.hid (show (placesM j plan).length ≤ 400000 by have h := placesTo_len hej (layGo_ok hlay) plan.length (Nat.le_refl _); unfold placesM; omega)
  generalize placesM j plan = L at *
  clear k0 k1 k2 k3 k4 HC4 HB4 hz6 hzw4 hv6 HE7 HQ2 HPP hej hlay hln hin hpw
  have hlnE : ∀ m : Int, (L.length : Int) = m → ((L.length : Int) != m) = false := fun m h => by rw [h]; simp
  have hlnF := hlnE _ HLN.out
  clear hlnE
  obtain ⟨k0, k1, k2, k3, k4⟩ := HC6.out
  have hs4 := (small_bd HSM.out HE.out).1
  have HSP := Lib.hid (show Speciess.V = Speciess.V from rfl)
  go_upto_region 11 with (go_at_call 29; refine (pieces_any ja2 j.blanks jc2 _ (HVB.out.keep HB6.out) HJO.out.lenB (fun x hx => (HJO.out.want x hx).2)).mono ?_; rintro e w7 ⟨rfl, hb⟩; have HB7 := Lib.hid (HB6.out.trans (hb.mono HB6.out.size)); have HC7 := Lib.hid (HC6.out.keep hb hzw6); have hz7 := hb.size; have HV7 := Lib.hid (HV6.out.keep hb); clear hb)
  have hzw7 : gj < w7.heap.size := by omega
  clear k0 k1 k2 k3 k4 HC6 HB6 hz7 hzw6 HV6 hlnF HLN
  obtain ⟨k0, k1, k2, k3, k4⟩ := HC7.out
  go_upto_region 12 with (go_at_call 36; refine (woods_any j ja1 jc1 ja2 jc2 _ (HVS.out.keep HB7.out) HJO.out.lenS).mono ?_; rintro e w8 ⟨aw, cw, rfl, hv, hb⟩; have HB8 := Lib.hid (HB7.out.trans (hb.mono HB7.out.size)); have HC8 := Lib.hid (HC7.out.keep hb hzw7); have hz8 := hb.size; have HV8 := Lib.hid (HV7.out.keep hb); have HW8 := Lib.hid hv; clear hb hv)
  have hzw8 : gj < w8.heap.size := by omega
  clear k0 k1 k2 k3 k4 HC7 HB7 hz8 hzw7 HV7 HSP
  have HWL := Lib.hid (show (woodsTo j.stock j.stock.length).length ≤ 9223372036854775807 by have := woods_len j.stock j.stock.length; omega)
  have HSK := Lib.hid (stockE_ok HE.out (by omega))
  have HFO := Lib.hid (fun p hp hi hl => fit_one (j := j) (p := p) HE.out hp hi hl)
  have HBK := Lib.hid (fun x hx => blank_okJ HE.out (x := x) hx)
  generalize woodsTo j.stock j.stock.length = WD at *
  obtain ⟨AD, CD, hSC⟩ := stock_ch HVS.out
  have HSC := Lib.hid hSC
  have hLS := HJO.out.lenS
  have hLB := HJO.out.lenB
  have hLP := HLP.out
  have u1 : IntKind.i64.wrap ((j.stock.length : Int) - 1) = (j.stock.length : Int) - 1 := IntWalk.i64_in _ (by omega)
  have u2 : IntKind.i64.wrap ((j.blanks.length : Int) - 1) = (j.blanks.length : Int) - 1 := IntWalk.i64_in _ (by omega)
  have hmix : Tryz.prog.follows .mixedOrders = true := by kernel_rfl
  clear hSC hs4
  go_wp2_with fail
  go_loopw [7] (fun iv wr => ∃ k : Nat, k ≤ L.length ∧ iv = .int .i64 k ∧ Below w8.heap.size w8 wr) (fun iv _ => L.length - (intOf iv).toNat)
  case atStart => exact ⟨0, Nat.zero_le _, rfl, Below.refl _ _⟩
  case round =>
    obtain ⟨k, hk, rfl, hbr⟩ := hrel
    obtain ⟨wo, rfl⟩ : ∃ wo : World, wo = wr := ⟨_, rfl⟩
    have HBO := Lib.hid (HB8.out.trans (hbr.mono HB8.out.size))
    have HBR8 := Lib.hid hbr
    have HCO := Lib.hid (HC8.out.keep hbr hzw8)
    have hzo : gj < wo.heap.size := by have := hbr.size; omega
    have HVO := Lib.hid (HV8.out.keep hbr)
    clear hbr
    by_cases hlt : k < L.length
    · have hki : (k : Int) < (L.length : Int) := by omega
      have v1 : IntKind.i64.wrap ((k : Int) + 1) = (k : Int) + 1 := IntWalk.i64_in _ (by omega)
      obtain ⟨gP, offP, haP, ⟨x0, x1⟩, ⟨x2, x3⟩, x4, x5⟩ := HVO.out.at_ hlt
      have HSP := Lib.hid (HS.out _ (List.getElem_mem hlt))
      obtain ⟨p, hp⟩ : ∃ p, L[k] = p := ⟨_, rfl⟩
      rw [hp] at x0 x1 x2 x3 x4 x5 HSP
      obtain ⟨pb', pl', r⟩ := p
      have HPI := Lib.hid HSP.out.inn
      obtain ⟨nb, hnb⟩ : ∃ n : Nat, pb' = n := ⟨pb'.toNat, by have := HPI.out.board.1; simp only at this; omega⟩
      obtain ⟨nl, hnl⟩ : ∃ n : Nat, pl' = n := ⟨pl'.toNat, by have := HPI.out.blank.1; simp only at this; omega⟩
      subst hnb hnl
      have hnbs : nb < j.stock.length := by have := HPI.out.board.2; simp only at this; omega
      have hnls : nl < j.blanks.length := by have := HPI.out.blank.2; simp only at this; omega
      have hbi : (nb : Int) < (j.stock.length : Int) := by omega
      have hli : (nl : Int) < (j.blanks.length : Int) := by omega
      have HNR := Lib.hid HSP.out.near
      have hgl : bl j.blanks nl = j.blanks[nl] := by unfold bl; rw [List.getD_eq_getElem?_getD, List.getElem?_eq_getElem hnls]; rfl
      have hsz := HPI.out.size
      simp only [Int.toNat_natCast] at hsz
      rw [hgl] at hsz
      have hfo := HFO.out _ HPI.out (by simpa using hnbs) (by simpa using hnls)
      simp only [Int.toNat_natCast] at hfo
      have HFM := Lib.hid (fitK_mem (k := j.stock.length) hnbs hnbs hfo.1)
      have HSD := Lib.hid hfo.2
      have HBX := Lib.hid (HBK.out _ (List.getElem_mem hnls))
      obtain ⟨⟨gs, off, has, hcb⟩, hrv, hdl, hdm, hbwf⟩ := HSC.out.ch nb _ (List.getElem?_eq_getElem hnbs)
      obtain ⟨gl, off', hal, hbat⟩ := (HVB.out.keep HBO.out).at_ hnls
      obtain ⟨hcl, hxwf⟩ := CellsB.ofAt hbat
      have hcb := hcb.keep HBO.out
      have HRV := Lib.hid (hrv.keep HBO.out)
      have HDL := Lib.hid (show j.stock[nb].defects.length ≤ 9223372036854775807 by unfold maxLen at hdm; omega)
      have HBF := Lib.hid hbwf
      have HXW := Lib.hid hxwf
      have HSZ := Lib.hid hsz
      clear hsz hgl hrv hdl hdm hbwf HPI HSP hp hfo hbat hxwf
      subst has
      subst hal
      subst haP
      have HST := Lib.hid (show Boards.V wo (some ⟨gs, off, none⟩) j.stock from HVS.out.keep HBO.out)
      obtain ⟨k0, k1, k2, k3, k4⟩ := HCO.out
      obtain ⟨s0, s1, s2, s3, s4, s5, s6, s7⟩ := hcb
      obtain ⟨t0, t1, t2, t3, t4, t5⟩ := hcl
      generalize AD nb = ad at *
      generalize CD nb = cd at *
      generalize j.stock[nb] = b at *
      have HFMB := Lib.hid (List.getElem_mem hnls)
      generalize j.blanks[nl] = x at *
      simp only at x0 x1 x2 x3 x4 x5
      have HW1 := Lib.hid (withinB_in (n := (nb : Int)) (lo := 0) (hi := (j.stock.length : Int) - 1) (by omega))
      have HW2 := Lib.hid (withinB_in (n := (nl : Int)) (lo := 0) (hi := (j.blanks.length : Int) - 1) (by omega))
      have HKJ := Lib.hid (And.intro (And.intro k0 k1) (And.intro k2 (And.intro k3 k4)))
      have HKP := Lib.hid (And.intro (And.intro x0 x1) (And.intro (And.intro x2 x3) (And.intro x4 x5)))
      have HKS := Lib.hid (CellsBd.mk s0 s1 s2 s3 s4 s5 s6 s7)
      have HKT := Lib.hid (CellsB.mk t0 t1 t2 t3 t4 t5)
      clear k2 k3 k4 s0 s1 s2 s3 s4 s5 s6 s7 t0 t1 t2 t3 t4 t5 x2 x3 x4 x5
      go_upto_region 15 with fail
      have kx0 : ∀ y : (KW (fun W' => Below wo.heap.size wo W')), (y.w.cell? ⟨gj, 0, none⟩ = some (.slice (some ⟨gs, off, none⟩) j.stock.length jc1) ∧ y.w.cell? ⟨gj, 1, none⟩ = some (.slice (some ⟨gl, off', none⟩) j.blanks.length jc2)) ∧ y.w.cell? ⟨gP, offP + k * 6, none⟩ = some (.int .i64 nb) ∧ y.w.cell? ⟨gP, offP + k * 6 + 1, none⟩ = some (.int .i64 nl) := fun y => ⟨⟨cell_keep y.ok k0, cell_keep y.ok k1⟩, cell_keep y.ok x0, cell_keep y.ok x1⟩
      clear k0 k1 x0 x1
      haveI n1 : Nonempty (KW (fun W' => Below wo.heap.size wo W')) := ⟨⟨wo, Below.refl _ _⟩⟩
      refine wp_region_tree (fun w' => ∃ y : (KW (fun W' => Below wo.heap.size wo W')), w' = y.w) 21 (.take 0 (.take 1 (.take 2 (.take 3 (.take 4 (.take 5 (.take 6 (.take 7 (.take 8 (.one 9 (.take 10 (.take 11 (.take 12 (.take 13 (.take 14 (.take 15 (.take 16 (.take 17 (.take 18 (.take 19 (.take 20 .done))))))))))))))))))))) hmix (by kernel_rfl) (KW.mk' (Below.refl _ _).drew) ?_
      have hB0 : Below wo.heap.size wo wo.drew := (Below.refl _ _).drew
      generalize wo.drew = w9 at *
      have HB9 := Lib.hid hB0
      clear hB0
      repeat (refine wpTree_take ?_; simp only [nthOp]; (first | go_big_quiet_step (fail) | quiet_step (fail)); refine wpQuiet_nil ?_)
      refine wpTree_one ?_
      simp only [nthOp]
      go_wp2_with (go_at_call 33; refine (baseWithin_is _ _ _ _ HW1.out).mono ?_; rintro e w' ⟨rfl, rfl⟩)
      refine One_mk (KW.mk' HB9.out) ?_
      repeat (refine wpTree_take ?_; simp only [nthOp]; (first | go_big_quiet_step (fail) | quiet_step (fail)); refine wpQuiet_nil ?_)
      refine wpTree_done ?_
      simp only [List.drop_succ_cons, List.drop_zero]
      go_wp2_with (go_at_call 33; refine (baseWithin_is _ _ _ _ HW2.out).mono ?_; rintro e w' ⟨rfl, rfl⟩)
      refine NP_mk ?_
      clear kx0 n1
      have hk9 := fun {g o : Nat} {v : Value} (h : wo.cell? ⟨g, o, none⟩ = some v) => cell_keep HB9.out h
      go_upto_region 17 with fail
      have kx0 : ∀ y : (KW (fun W' => Below w9.heap.size w9 W')), y.w.cell? ⟨gj, 1, none⟩ = some (.slice (some ⟨gl, off', none⟩) j.blanks.length jc2) ∧ y.w.cell? ⟨gP, offP + k * 6 + 1, none⟩ = some (.int .i64 nl) := fun y => ⟨cell_keep y.ok (hk9 HKJ.out.1.2), cell_keep y.ok (hk9 HKP.out.1.2)⟩
      have kx1 : ∀ y : (KW (fun W' => Below w9.heap.size w9 W')), (y.w.cell? ⟨gl, off' + nl * 6, none⟩ = some (.string x.name) ∧ y.w.cell? ⟨gl, off' + nl * 6 + 1, none⟩ = some (.string x.species)) ∧ (y.w.cell? ⟨gl, off' + nl * 6 + 2, none⟩ = some (.int .i64 x.length) ∧ y.w.cell? ⟨gl, off' + nl * 6 + 3, none⟩ = some (.int .i64 x.width)) ∧ y.w.cell? ⟨gl, off' + nl * 6 + 4, none⟩ = some (.int .i64 x.thick) ∧ y.w.cell? ⟨gl, off' + nl * 6 + 5, none⟩ = some (.int .i64 x.count) := fun y => ⟨⟨cell_keep y.ok (hk9 HKT.out.c0), cell_keep y.ok (hk9 HKT.out.c1)⟩, ⟨cell_keep y.ok (hk9 HKT.out.c2), cell_keep y.ok (hk9 HKT.out.c3)⟩, cell_keep y.ok (hk9 HKT.out.c4), cell_keep y.ok (hk9 HKT.out.c5)⟩
      clear hk9
      haveI n1 : Nonempty (KW (fun W' => Below w9.heap.size w9 W')) := ⟨⟨w9, Below.refl _ _⟩⟩
      refine wp_region_tree (fun w' => ∃ y : (KW (fun W' => Below w9.heap.size w9 W')), w' = y.w) 10 (.take 0 (.take 1 (.take 2 (.take 3 (.take 4 (.take 5 (.take 6 (.take 7 (.take 8 (.one 9 .done)))))))))) hmix (by kernel_rfl) (KW.mk' (Below.refl _ _).drew) ?_
      have hB0 : Below w9.heap.size w9 w9.drew := (Below.refl _ _).drew
      generalize w9.drew = wa at *
      have HBa := Lib.hid (HB9.out.trans (hB0.mono HB9.out.size))
      have hza : w9.heap.size ≤ wa.heap.size := hB0.size
      have hB0' := hB0
      repeat (refine wpTree_take ?_; simp only [nthOp]; (first | go_big_quiet_step (fail) | quiet_step (fail)); refine wpQuiet_nil ?_)
      refine wpTree_one ?_
      simp only [nthOp]
      go_wp2_with fail
      refine One_mk (KW.mk' (hB0'.alloc hza _)) ?_
      refine wpTree_done ?_
      simp only [List.drop_succ_cons, List.drop_zero]
      clear kx0 kx1 n1 hB0 hB0'
      go_wp2_with fail
      refine NP_mk ?_
      go_upto_region 18 with fail
      refine gen_world (fun W' => CellsB W' wa.heap.size 0 x ∧ Below wa.heap.size wa W') ⟨⟨by simp [go_sem], by simp [go_sem], by simp [go_sem], by simp [go_sem], by simp [go_sem], by simp [go_sem]⟩, by repeat (first | (with_reducible assumption) | exact Below.refl _ _ | (refine Below.setCell ?_ (by first | omega | (simp; omega) | (simp; done)) _) | (refine Below.alloc ?_ (by first | omega | (simp; omega) | (simp; done)) _) | (refine Below.drew ?_))⟩ ?_
      rintro Wb ⟨hcx, hbb⟩
      obtain ⟨g8, hg8⟩ : ∃ g, g = wa.heap.size := ⟨_, rfl⟩
      rw [← hg8] at hcx ⊢
      have HCX := Lib.hid hcx
      have HBb := Lib.hid (HBa.out.trans (hbb.mono HBa.out.size))
      clear hcx hbb hg8 hza HB9 HBa
      have hkb := fun {g o : Nat} {v : Value} (h : wo.cell? ⟨g, o, none⟩ = some v) => cell_keep HBb.out h
      have kx0 : ∀ y : (KW (fun W' => Below Wb.heap.size Wb W')), (y.w.cell? ⟨gj, 0, none⟩ = some (.slice (some ⟨gs, off, none⟩) j.stock.length jc1) ∧ y.w.cell? ⟨gP, offP + k * 6, none⟩ = some (.int .i64 nb)) := fun y => ⟨cell_keep y.ok (hkb HKJ.out.1.1), cell_keep y.ok (hkb HKP.out.1.1)⟩
      have kx1 : ∀ y : (KW (fun W' => Below Wb.heap.size Wb W')), (y.w.cell? ⟨gP, offP + k * 6 + 2, none⟩ = some (.int .i64 r.x1) ∧ y.w.cell? ⟨gP, offP + k * 6 + 3, none⟩ = some (.int .i64 r.y1)) ∧ y.w.cell? ⟨gP, offP + k * 6 + 4, none⟩ = some (.int .i64 r.x2) ∧ y.w.cell? ⟨gP, offP + k * 6 + 5, none⟩ = some (.int .i64 r.y2) := fun y => ⟨⟨cell_keep y.ok (hkb HKP.out.2.1.1), cell_keep y.ok (hkb HKP.out.2.1.2)⟩, cell_keep y.ok (hkb HKP.out.2.2.1), cell_keep y.ok (hkb HKP.out.2.2.2)⟩
      have kx2 : ∀ y : (KW (fun W' => Below Wb.heap.size Wb W')), (y.w.cell? ⟨gs, off + nb * 8, none⟩ = some (.string b.name) ∧ y.w.cell? ⟨gs, off + nb * 8 + 1, none⟩ = some (.string b.species)) ∧ y.w.cell? ⟨gs, off + nb * 8 + 2, none⟩ = some (.int .i64 b.length) ∧ y.w.cell? ⟨gs, off + nb * 8 + 3, none⟩ = some (.int .i64 b.width) := fun y => ⟨⟨cell_keep y.ok (hkb HKS.out.c0), cell_keep y.ok (hkb HKS.out.c1)⟩, cell_keep y.ok (hkb HKS.out.c2), cell_keep y.ok (hkb HKS.out.c3)⟩
      have kx3 : ∀ y : (KW (fun W' => Below Wb.heap.size Wb W')), (y.w.cell? ⟨gs, off + nb * 8 + 4, none⟩ = some (.int .i64 b.thick) ∧ y.w.cell? ⟨gs, off + nb * 8 + 5, none⟩ = some (.int .i64 b.cut)) ∧ y.w.cell? ⟨gs, off + nb * 8 + 6, none⟩ = some (.int .i64 b.moisture) ∧ y.w.cell? ⟨gs, off + nb * 8 + 7, none⟩ = some (.slice ad b.defects.length cd) := fun y => ⟨⟨cell_keep y.ok (hkb HKS.out.c4), cell_keep y.ok (hkb HKS.out.c5)⟩, cell_keep y.ok (hkb HKS.out.c6), cell_keep y.ok (hkb HKS.out.c7)⟩
      clear hkb
      haveI n1 : Nonempty (KW (fun W' => Below Wb.heap.size Wb W')) := ⟨⟨Wb, Below.refl _ _⟩⟩
      have HSO := Lib.hid (fun w9 hv => timberSound_any b r ad cd w9 hv HDL.out HBF.out)
      rw [HSD.out.1, HSD.out.2] at HSO
      refine wp_region_tree (fun w' => ∃ y : (KW (fun W' => Below Wb.heap.size Wb W')), w' = y.w) 19 (.take 0 (.take 1 (.take 2 (.take 3 (.take 4 (.take 5 (.take 6 (.take 7 (.take 8 (.take 9 (.take 10 (.take 11 (.take 12 (.take 13 (.one 14 (.take 15 (.take 16 (.take 17 (.take 18 .done))))))))))))))))))) hmix (by kernel_rfl) (KW.mk' (Below.refl _ _).drew) ?_
      have hB0 : Below Wb.heap.size Wb Wb.drew := (Below.refl _ _).drew
      generalize Wb.drew = wc at *
      have HBc := Lib.hid hB0
      clear hB0
      repeat (refine wpTree_take ?_; simp only [nthOp]; (first | go_big_quiet_step (fail) | quiet_step (fail)); refine wpQuiet_nil ?_)
      refine wpTree_one ?_
      simp only [nthOp]
      go_wp2_with (go_at_call 37; refine (HSO.out _ ((HRV.out.keep HBb.out).keep HBc.out)).mono ?_; rintro e wd ⟨rfl, hb⟩; have HBd := Lib.hid (HBc.out.trans (hb.mono HBc.out.size)); clear hb)
      refine One_mk (KW.mk' HBd.out) ?_
      repeat (refine wpTree_take ?_; simp only [nthOp]; (first | go_big_quiet_step (fail) | quiet_step (fail)); refine wpQuiet_nil ?_)
      refine wpTree_done ?_
      simp only [List.drop_succ_cons, List.drop_zero]
      clear kx0 kx1 kx2 kx3 n1
      go_wp2_with fail
      refine NP_mk ?_
      have HBod := Lib.hid (HBb.out.trans (HBd.out.mono HBb.out.size))
      have HCXd := Lib.hid (HCX.out.keep2 HBd.out)
      clear HBb HBc HBd HCX HSO
      have k0 := cell_keep HBod.out HKJ.out.1.1
      obtain ⟨d0, d1, d2, d3, d4, d5⟩ := HCXd.out
      simp only [Nat.zero_add] at d0 d1 d2 d3 d4 d5
      have HBwd := Lib.hid (HBO.out.trans (HBod.out.mono HBO.out.size))
      have HB8d := Lib.hid (HBR8.out.trans (HBod.out.mono HBR8.out.size))
      have hfe : fitE WD j.stock x = 0 := by unfold fitE; rw [if_pos HSK.out]; exact HBX.out
      have HFT := Lib.hid (fun w9 hs hv => fitting_any aw WD cw (some ⟨gs, off, none⟩) j.stock jc1 x w9 hs HWL.out hv LSj HXW.out)
      have hfl : fitL WD j.stock x = fitK j.stock x j.stock.length := by unfold fitL; rw [if_pos hfe]
      rw [hfe, hfl] at HFT
      have HFL := Lib.hid (show (fitK j.stock x j.stock.length).length ≤ 1000000 by have := fitK_len j.stock x j.stock.length; omega)
      clear hfe hfl
      generalize fitK j.stock x j.stock.length = FK at *
      go_upto_region 20 with (go_at_call 38; refine (HFT.out _ (HW8.out.keep HB8d.out) (HST.out.keep HBod.out)).mono ?_; rintro e we ⟨af, cf, rfl, hv, hb⟩; have HBe := Lib.hid (HBod.out.trans (hb.mono HBod.out.size)); have HVe := Lib.hid hv; have HCXe := Lib.hid (HCXd.out.keep2 hb); clear hb hv)
      clear k0 d0 d1 d2 d3 d4 d5
      obtain ⟨d0, d1, d2, d3, d4, d5⟩ := HCXe.out
      simp only [Nat.zero_add] at d0 d1 d2 d3 d4 d5
      have hke := fun {g o : Nat} {v : Value} (h : wo.cell? ⟨g, o, none⟩ = some v) => cell_keep HBe.out h
      have kx0 : ∀ y : (KW (fun W' => Below we.heap.size we W')), (y.w.cell? ⟨g8, 2, none⟩ = some (.int .i64 x.length) ∧ y.w.cell? ⟨g8, 3, none⟩ = some (.int .i64 x.width)) ∧ y.w.cell? ⟨gP, offP + k * 6, none⟩ = some (.int .i64 nb) := fun y => ⟨⟨cell_keep y.ok d2, cell_keep y.ok d3⟩, cell_keep y.ok (hke HKP.out.1.1)⟩
      have kx1 : ∀ y : (KW (fun W' => Below we.heap.size we W')), (y.w.cell? ⟨gP, offP + k * 6 + 2, none⟩ = some (.int .i64 r.x1) ∧ y.w.cell? ⟨gP, offP + k * 6 + 3, none⟩ = some (.int .i64 r.y1)) ∧ y.w.cell? ⟨gP, offP + k * 6 + 4, none⟩ = some (.int .i64 r.x2) ∧ y.w.cell? ⟨gP, offP + k * 6 + 5, none⟩ = some (.int .i64 r.y2) := fun y => ⟨⟨cell_keep y.ok (hke HKP.out.2.1.1), cell_keep y.ok (hke HKP.out.2.1.2)⟩, cell_keep y.ok (hke HKP.out.2.2.1), cell_keep y.ok (hke HKP.out.2.2.2)⟩
      clear hke d0 d1 d2 d3 d4 d5
      haveI n1 : Nonempty (KW (fun W' => Below we.heap.size we W')) := ⟨⟨we, Below.refl _ _⟩⟩
      have hnr := HNR.out
      have v5 : IntKind.i64.wrap (r.x2 - r.x1) = x.length := by rw [IntWalk.i64_in _ (by simp only [near] at hnr; omega)]; exact HSZ.out.1
      have v6 : IntKind.i64.wrap (r.y2 - r.y1) = x.width := by rw [IntWalk.i64_in _ (by simp only [near] at hnr; omega)]; exact HSZ.out.2
      have hne5 : (x.length != x.length) = false := by simp
      have hne6 : (x.width != x.width) = false := by simp
      clear hnr
      refine wp_region_tree (fun w' => ∃ y : (KW (fun W' => Below we.heap.size we W')), w' = y.w) 54 (.take 0 (.take 1 (.take 2 (.take 3 (.take 4 (.take 5 (.take 6 (.take 7 (.take 8 (.take 9 (.take 10 (.take 11 (.take 12 (.take 13 (.take 14 (.take 15 (.take 16 (.one 17 (.take 18 (.take 19 (.take 20 (.take 21 (.take 22 (.take 23 (.take 24 (.take 25 (.take 26 (.take 27 (.take 28 (.take 29 (.take 30 (.take 31 (.take 32 (.take 33 (.take 34 (.take 35 (.take 36 (.take 37 (.take 38 (.take 39 (.take 40 (.take 41 (.take 42 (.take 43 (.take 44 (.take 45 (.take 46 (.take 47 (.take 48 (.take 49 (.take 50 (.take 51 (.take 52 (.take 53 .done)))))))))))))))))))))))))))))))))))))))))))))))))))))) hmix (by kernel_rfl) (KW.mk' (Below.refl _ _).drew) ?_
      have hB0 : Below we.heap.size we we.drew := (Below.refl _ _).drew
      generalize we.drew = wf at *
      have HBf := Lib.hid hB0
      clear hB0
      repeat (refine wpTree_take ?_; simp only [nthOp]; (first | go_big_quiet_step (fail) | quiet_step (fail)); refine wpQuiet_nil ?_)
      refine wpTree_one ?_
      simp only [nthOp]
      go_wp2_with (go_at_call 39; refine (has_yes _ FK _ _ _ (intsV_keep HVe.out HBf.out) HFL.out HFM.out).mono ?_; rintro e wg ⟨rfl, hb⟩; have HBg := Lib.hid (HBf.out.trans (hb.mono HBf.out.size)); clear hb)
      refine One_mk (KW.mk' HBg.out) ?_
      repeat (refine wpTree_take ?_; simp only [nthOp]; (first | go_big_quiet_step (fail) | quiet_step (fail)); refine wpQuiet_nil ?_)
      refine wpTree_done ?_
      simp only [List.drop_succ_cons, List.drop_zero]
      clear kx0 kx1 n1
      go_wp2_with fail
      refine NP_mk ?_
      go_wp2_with fail
      go_roundw
      case rel => exact ⟨k + 1, by omega, by go_num, HBR8.out.trans ((HBe.out.trans (HBg.out.mono HBe.out.size)).mono HBR8.out.size)⟩
      case measure => first | (simp [intOf]; done) | (simp [intOf]; omega)
    · obtain rfl : k = L.length := by omega
      have hki : ¬ ((L.length : Nat) : Int) < ((L.length : Nat) : Int) := by omega
      go_wp2_with fail
      go_ret
      exact ⟨rfl, HBO.out⟩
set_option maxRecDepth 100000 in
theorem topSoundWood_walks : Walks 7 Tryz.f7 := by
  intro H enc W base args ds p hval hA hlt
  rw [Tryz.params7] at hA hval
  obtain ⟨v0, vs0, d0, ds0, p0, q0, hargs, rfl, rfl, ⟨fu0, hf0⟩, r0⟩ := trodAll_cons hA
  obtain ⟨rfl, rfl, rfl⟩ := trodAll_nil r0
  obtain rfl : args = #[v0] := by cases args; simp_all
  obtain ⟨cs0, rfl, -⟩ := okWide_struct Tryz.underlying27 (hval 0 27 v0 rfl rfl)
  obtain ⟨j0, a0, c0, b0, d0, hc0, ⟨V0, C0, M0⟩, ⟨U0, D0, N0⟩, W0⟩ := Job.open_ hf0
  have hd0 : cs0 = #[.slice a0 j0.stock.length c0, .slice b0 j0.blanks.length d0, .int .i64 j0.trim.kerf, .int .i64 j0.trim.ends, .int .i64 j0.trim.sides] := by
    cases cs0; simpa [Value.cells] using hc0
  subst hd0
  exact walkTopSoundWood j0 a0 c0 b0 d0 W V0 (by unfold maxLen at M0; omega) C0 U0 (by unfold maxLen at N0; omega) D0 W0

set_option maxRecDepth 100000 in
theorem topSoundWood_holds : Rows.TopSoundWoodSaid :=
  law_holds (s := Rows.topSoundWoodSpec) (c := Rows.topSoundWoodRow) 7 Tryz.f7 rfl
    (fun H ds h => by match ds, h with | [_], _ => rfl) (by kernel_rfl) (by kernel_rfl)
    rfl rfl rfl rfl rfl rfl rfl ⟨rfl, rfl, rfl, rfl, rfl⟩ rfl rfl rfl rfl rfl rfl rfl rfl rfl rfl (fun _ _ => rfl) (by kernel_rfl) Tryz.func7
    topSoundWood_closed (of_decide_eq_true (by kernel_rfl)) (by unfold Func.isWrapper; first | (rw [if_pos (by decide +kernel)]; kernel_rfl) | (rw [if_neg (by decide +kernel)]; exact ⟨rfl, rfl⟩)) (by kernel_rfl)
    (fun H enc os => ChangeSpec.witness6 (enc := enc) (C := Tryz.checked) false ⟨#[], #[.agg #[.slice none 0 0, .slice none 0 0, .int .i64 0, .int .i64 0, .int .i64 0]], []⟩ 8 (by kernel_rfl) (by kernel_rfl) (by kernel_rfl) (by kernel_rfl))
    topSoundWood_walks
end Go.Proofs.YtdmoiepafkbefaaGreat
