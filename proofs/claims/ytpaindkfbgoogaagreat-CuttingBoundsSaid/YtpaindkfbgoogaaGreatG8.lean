/- All boards: the first one that takes a blank. -/
import Derived.Test.YtpaindkfbgoogaaGreatG7
set_option linter.unusedVariables false
set_option linter.unusedSimpArgs false
namespace Go.Proofs.YtpaindkfbgoogaaGreat
open Go Go.RowKit

def deskL (A C : Nat → Addr) : Nat → List BS → List Slot
  | _, [] => []
  | k, s :: S => slotC (A k) s.cuts :: slotR (C k) s.rects :: deskL A C (k + 1) S
theorem deskL_at' {A C : Nat → Addr} : ∀ {S : List BS} {j k : Nat} (hk : k < S.length), AtB (deskL A C j S) (2 * k) (A (j + k)) (C (j + k)) (S.getD k default)
  | [], _, _, hk => absurd hk (by simp)
  | s :: S, j, 0, _ => ⟨by simp [deskL], by simp [deskL]⟩
  | s :: S, j, k + 1, hk => by
    have h := deskL_at' (A := A) (C := C) (S := S) (j := j + 1) (k := k) (by simpa using hk)
    have e : 2 * (k + 1) = 2 * k + 2 := by omega
    have e2 : j + (k + 1) = j + 1 + k := by omega
    rw [e, e2]
    exact ⟨by simpa [deskL] using h.c, by simpa [deskL] using h.r⟩
theorem deskL_at {A C : Nat → Addr} {S : List BS} {k : Nat} (hk : k < S.length) : AtB (deskL A C 0 S) (2 * k) (A k) (C k) (S.getD k default) := by simpa using deskL_at' (A := A) (C := C) (j := 0) hk
theorem deskL_set' {A C : Nat → Addr} {s' : BS} : ∀ {S : List BS} {j k : Nat} (hk : k < S.length), setB (deskL A C j S) (2 * k) (A (j + k)) (C (j + k)) s' = deskL A C j (S.set k s')
  | [], _, _, hk => absurd hk (by simp)
  | s :: S, j, 0, _ => by simp [deskL, setB]
  | s :: S, j, k + 1, hk => by
    have h := deskL_set' (A := A) (C := C) (s' := s') (S := S) (j := j + 1) (k := k) (by simpa using hk)
    have e : 2 * (k + 1) = 2 * k + 1 + 1 := by omega
    have e2 : j + (k + 1) = j + 1 + k := by omega
    unfold setB at h ⊢
    rw [e, e2]
    simp only [deskL, List.set_cons_succ]
    rw [h]
theorem deskL_set {A C : Nat → Addr} {S : List BS} {s' : BS} {k : Nat} (hk : k < S.length) : setB (deskL A C 0 S) (2 * k) (A k) (C k) s' = deskL A C 0 (S.set k s') := by simpa using deskL_set' (A := A) (C := C) (s' := s') (j := 0) hk
theorem deskL_len {A C : Nat → Addr} : ∀ {S : List BS} {j : Nat}, (deskL A C j S).length = 2 * S.length
  | [], _ => rfl
  | s :: S, j => by simp only [deskL, List.length_cons, deskL_len]; omega
theorem deskL_app {A C : Nat → Addr} {s' : BS} : ∀ {S : List BS} {j : Nat}, deskL A C j (S ++ [s']) = deskL A C j S ++ [slotC (A (j + S.length)) s'.cuts, slotR (C (j + S.length)) s'.rects]
  | [], j => by simp [deskL]
  | s :: S, j => by
    simp only [List.cons_append, deskL, deskL_app, List.length_cons]
    rw [show j + 1 + S.length = j + (S.length + 1) by omega]

/-- A job that lies in memory, as the walk of the greedy plan wants it. -/
structure JobOk (stock : List Board) (blanks : List Blank) (t : Trim) : Prop where
  defs : ∀ b ∈ stock, DefsOk b.defects
  size : ∀ b ∈ stock, (1 ≤ b.length ∧ b.length ≤ 600000) ∧ (1 ≤ b.width ∧ b.width ≤ 100000)
  want : ∀ w ∈ blanks, ((1 ≤ w.length ∧ w.length ≤ 600000) ∧ (1 ≤ w.width ∧ w.width ≤ 600000)) ∧ (1 ≤ w.count ∧ w.count ≤ 200)
  trim : (0 ≤ t.kerf ∧ t.kerf ≤ 10000) ∧ (0 ≤ t.ends ∧ t.ends ≤ 10000) ∧ (0 ≤ t.sides ∧ t.sides ≤ 10000)
  lenS : stock.length ≤ 100
  lenB : blanks.length ≤ 30
structure GoodAll (n : Nat) (S : List BS) : Prop where
  good : ∀ s ∈ S, (GoodB s ∧ LeafB s) ∧ s.cuts ≠ [] ∧ s.cuts.length ≤ n
theorem GoodAll.get {n : Nat} {S : List BS} (h : GoodAll n S) {k : Nat} (hk : k < S.length) : (GoodB (S.getD k default) ∧ LeafB (S.getD k default)) ∧ (S.getD k default).cuts ≠ [] ∧ (S.getD k default).cuts.length ≤ n := by
  rw [List.getD_eq_getElem?_getD, List.getElem?_eq_getElem hk]; exact h.good _ (List.getElem_mem hk)

structure CellsB (W : World) (g o : Nat) (x : Blank) : Prop where
  c0 : W.cell? ⟨g, o, none⟩ = some (.string x.name)
  c1 : W.cell? ⟨g, o + 1, none⟩ = some (.string x.species)
  c2 : W.cell? ⟨g, o + 2, none⟩ = some (.int .i64 x.length)
  c3 : W.cell? ⟨g, o + 3, none⟩ = some (.int .i64 x.width)
  c4 : W.cell? ⟨g, o + 4, none⟩ = some (.int .i64 x.thick)
  c5 : W.cell? ⟨g, o + 5, none⟩ = some (.int .i64 x.count)

structure G2F (W : World) (gi gj gb o number nb cb ob : Nat) (x : Blank) : Prop where
  i : W.cell? ⟨gi, 0, none⟩ = some (.int .i64 number)
  j : W.cell? ⟨gj, 1, none⟩ = some (.slice (some ⟨gb, ob, none⟩) nb cb)
  c0 : W.cell? ⟨gb, o, none⟩ = some (.string x.name)
  c1 : W.cell? ⟨gb, o + 1, none⟩ = some (.string x.species)
  c2 : W.cell? ⟨gb, o + 2, none⟩ = some (.int .i64 x.length)
  c3 : W.cell? ⟨gb, o + 3, none⟩ = some (.int .i64 x.width)
  c4 : W.cell? ⟨gb, o + 4, none⟩ = some (.int .i64 x.thick)
  c5 : W.cell? ⟨gb, o + 5, none⟩ = some (.int .i64 x.count)

set_option maxRecDepth 100000 in
set_option maxHeartbeats 8000000 in
theorem greedy2_any (x base : Nat) (L : List Slot) (i : Nat) (s : BS) (St : Addr → Value → Prop) (b : Board) (ad : Option Addr) (cd : Nat) (t : Trim) (blanks : List Blank) (ab : Option Addr) (cb gi gj number : Nat) (w : World) (hD : Desk w base L St) (hA : AtB L i ⟨x, 11, none⟩ ⟨x, 12, none⟩ s)
    (hst : ∀ o v, (benchCells b ad cd t)[o]? = some v → St ⟨x, o, none⟩ v) (hv : Rects.V w ad b.defects) (hdf : DefsOk b.defects) (hl : s.cuts.length ≤ 80000) (hne : s.cuts ≠ []) (hgd : GoodB s) (hlf : LeafB s)
    (hkf : 0 ≤ t.kerf ∧ t.kerf ≤ 10000) (hn : number < blanks.length) (hw : ((1 ≤ (bl blanks number).length ∧ (bl blanks number).length ≤ 600000) ∧ (1 ≤ (bl blanks number).width ∧ (bl blanks number).width ≤ 600000)))
    (hi : St ⟨gi, 0, none⟩ (.int .i64 number)) (hj : St ⟨gj, 1, none⟩ (.slice ab blanks.length cb)) (hb : Blanks.V w ab blanks) (hbl : blanks.length ≤ 30) :
    Calls Tryz.prog 79 #[.pointer (some ⟨x, 0, none⟩), .pointer (some ⟨gi, 0, none⟩), .pointer (some ⟨gj, 0, none⟩)] w (PutPost base w L St i ⟨x, 11, none⟩ ⟨x, 12, none⟩ s (s.put t.kerf b (bl blanks number) number)) := by
  have c1 := hD.cell hi
  have c2 := hD.cell hj
  obtain ⟨gb, ob, rfl, hat⟩ := hb.at_ hn
  have hbe : blanks[number] = bl blanks number := by unfold bl; rw [List.getD_eq_getElem?_getD, List.getElem?_eq_getElem hn]; rfl
  rw [hbe] at hat
  have HD := Lib.hid hD
  have hsz := hD.size hA
  obtain ⟨d0, d1, d2, d3, d4, d5, -⟩ := hat
  generalize bl blanks number = want at *
  have hni : (number : Int) < (blanks.length : Int) := by omega
  go_enter Tryz.func79, Tryz.ntmps79
  go_upto_region 1 with fail
  have hF : G2F w gi gj gb (ob + number * 6) number blanks.length cb ob want := ⟨c1, c2, d0, d1, d2, d3, d4, d5⟩
  have kx : ∀ y : KW (fun W => G2F W gi gj gb (ob + number * 6) number blanks.length cb ob want), (y.w.cell? ⟨gi, 0, none⟩ = some (.int .i64 number) ∧ y.w.cell? ⟨gj, 1, none⟩ = some (.slice (some ⟨gb, ob, none⟩) blanks.length cb)) ∧ (y.w.cell? ⟨gb, ob + number * 6, none⟩ = some (.string want.name) ∧ y.w.cell? ⟨gb, ob + number * 6 + 1, none⟩ = some (.string want.species) ∧ y.w.cell? ⟨gb, ob + number * 6 + 2, none⟩ = some (.int .i64 want.length)) ∧
    y.w.cell? ⟨gb, ob + number * 6 + 3, none⟩ = some (.int .i64 want.width) ∧ y.w.cell? ⟨gb, ob + number * 6 + 4, none⟩ = some (.int .i64 want.thick) ∧ y.w.cell? ⟨gb, ob + number * 6 + 5, none⟩ = some (.int .i64 want.count) := fun y => ⟨⟨y.ok.i, y.ok.j⟩, ⟨y.ok.c0, y.ok.c1, y.ok.c2⟩, y.ok.c3, y.ok.c4, y.ok.c5⟩
  haveI n1 : Nonempty (KW (fun W => G2F W gi gj gb (ob + number * 6) number blanks.length cb ob want)) := ⟨⟨w, hF⟩⟩
  have hF' : G2F w.drew gi gj gb (ob + number * 6) number blanks.length cb ob want := ⟨c1, c2, d0, d1, d2, d3, d4, d5⟩
  have HD1 := Lib.hid (HD.out.keep (w' := w.drew) (Below.refl _ _).drew)
  have HV1 := Lib.hid (hv.keep (w' := w.drew) (Below.refl _ _).drew)
  have HB1 := Lib.hid ((Below.refl base w).drew)
  clear c1 c2 d0 d1 d2 d3 d4 d5 hD
  refine wp_region_odr [(1, fun w' => ∃ y : KW (fun W => G2F W gi gj gb (ob + number * 6) number blanks.length cb ob want), w' = y.w), (3, fun w' => ∃ y : KW (fun W => G2F W gi gj gb (ob + number * 6) number blanks.length cb ob want), w' = y.w), (4, fun w' => ∃ y : KW (fun W => G2F W gi gj gb (ob + number * 6) number blanks.length cb ob want), w' = y.w), (6, fun w' => ∃ y : KW (fun W => G2F W gi gj gb (ob + number * 6) number blanks.length cb ob want), w' = y.w)] [1, 3, 4, 6] 7 (.take 0 (.take 1 (.take 2 (.take 3 (.take 4 (.take 5 (.take 6 .done))))))) rfl (by kernel_rfl) (by kernel_rfl) ?_
  generalize w.drew = w1 at *
  repeat (refine wpOdr_take (by first | exact trivial | exact KW.mk' hF') ?_; simp only [nthOp]; (first | go_big_quiet_step (fail) | quiet_step (fail)); refine wpQuiet_nil ?_)
  refine wpOdr_done ?_
  simp only [List.drop_succ_cons, List.drop_zero]
  go_wp2_with (go_at_call 80; refine (bplace_any x base L i s St b ad cd t want number _ HD1.out hA hst HV1.out hdf hl hne hgd hlf hkf hw).mono ?_; rintro e w6 ⟨rfl, hD6, hb6⟩; have HD6 := Lib.hid hD6; have HB6 := Lib.hid hb6; clear hD6 hb6)
  refine NP_mk ?_
  go_wp2_with fail
  go_ret
  exact ⟨rfl, HD6.out, HB1.out.trans HB6.out⟩

/-- The benches, one by one. -/
structure Benches (W0 : World) (X : Nat → Nat) (AD : Nat → Option Addr) (CD : Nat → Nat) (t : Trim) (stock : List Board) (gb : Nat) (St : Addr → Value → Prop) : Prop where
  st : ∀ k b, stock[k]? = some b → ∀ o v, (benchCells b (AD k) (CD k) t)[o]? = some v → St ⟨X k, o, none⟩ v
  rects : ∀ k b, stock[k]? = some b → Rects.V W0 (AD k) b.defects
  ptr : ∀ k, k < stock.length → St ⟨gb, k, none⟩ (.pointer (some ⟨X k, 0, none⟩))
abbrev AC (X : Nat → Nat) : Nat → Addr := fun k => ⟨X k, 11, none⟩
abbrev AR (X : Nat → Nat) : Nat → Addr := fun k => ⟨X k, 12, none⟩
def putF (kerf : Int) (stock : List Board) (w : Blank) (number : Int) (S : List BS) : Nat → Option BS := fun k => match stock[k]? with | some b => (S.getD k default).put kerf b w number | none => none
def setO (S : List BS) (o : Option (Nat × BS)) : List BS := match o with | some x => S.set x.1 x.2 | none => S
def idxO {α : Type} (o : Option (Nat × α)) : Int := match o with | some x => (x.1 : Int) | none => -1

set_option maxRecDepth 100000 in
set_option maxHeartbeats 8000000 in
theorem idxBench_any (base : Nat) (X : Nat → Nat) (AD : Nat → Option Addr) (CD : Nat → Nat) (t : Trim) (stock : List Board) (blanks : List Blank) (S : List BS) (St : Addr → Value → Prop) (ab : Option Addr) (cb gi gj gb cp number : Nat) (W0 w : World) (hW0 : W0.heap.size = base) (h0 : Below base W0 w)
    (hD : Desk w base (deskL (AC X) (AR X) 0 S) St) (hB : Benches W0 X AD CD t stock gb St) (hJ : JobOk stock blanks t) (hS : S.length = stock.length) (hG : GoodAll 80000 S) (hn : number < blanks.length)
    (hi : St ⟨gi, 0, none⟩ (.int .i64 number)) (hj : St ⟨gj, 1, none⟩ (.slice ab blanks.length cb)) (hb : Blanks.V W0 ab blanks) :
    Calls Tryz.prog 107 #[.slice (some ⟨gb, 0, none⟩) stock.length cp, .func (.func 79) #[] #[.pointer (some ⟨gi, 0, none⟩), .pointer (some ⟨gj, 0, none⟩)]] w
      fun e w' => e = .returned (.int .i64 (idxO (scan (putF t.kerf stock (bl blanks number) number S) stock.length 0))) ∧ Desk w' base (deskL (AC X) (AR X) 0 (setO S (scan (putF t.kerf stock (bl blanks number) number S) stock.length 0))) St ∧ Below base w w' := by
  go_enter Tryz.func107, Tryz.ntmps107
  go_wp2
  have HSC := Lib.hid (show scan (putF t.kerf stock (bl blanks number) number S) stock.length 0 = scan (putF t.kerf stock (bl blanks number) number S) (stock.length - 0) 0 from rfl)
  go_loopw [8] (fun iv wr => ∃ k : Nat, k ≤ stock.length ∧ iv = .int .i64 k ∧ Hid (scan (putF t.kerf stock (bl blanks number) number S) stock.length 0 = scan (putF t.kerf stock (bl blanks number) number S) (stock.length - k) k) ∧ Desk wr base (deskL (AC X) (AR X) 0 S) St ∧ Below base w wr) (fun iv _ => stock.length - (intOf iv).toNat)
  case atStart => exact ⟨0, Nat.zero_le _, rfl, HSC, hD, Below.refl _ _⟩
  case round =>
    clear HSC
    obtain ⟨k, hk, rfl, HP, hDr, hbw⟩ := hrel
    have HDR := Lib.hid hDr
    by_cases hlt : k < stock.length
    · obtain ⟨b, hbk⟩ : ∃ b, stock[k]? = some b := ⟨_, List.getElem?_eq_getElem hlt⟩
      have hmem : b ∈ stock := List.mem_of_getElem? hbk
      have hSk : k < S.length := by omega
      have hA := deskL_at (A := AC X) (C := AR X) hSk
      have hgk := hG.get hSk
      have hp := hDr.cell (hB.ptr k hlt)
      have hki : (k : Int) < (stock.length : Int) := by omega
      have HPF := Lib.hid (show putF t.kerf stock (bl blanks number) number S k = (S.getD k default).put t.kerf b (bl blanks number) number by unfold putF; rw [hbk])
      have HX := Lib.hid (show k < stock.length ∧ stock.length ≤ 100 from ⟨hlt, hJ.lenS⟩)
      have hwm := hJ.want (bl blanks number) (by unfold bl; rw [List.getD_eq_getElem?_getD, List.getElem?_eq_getElem hn]; exact List.getElem_mem hn)
      have h0r : Below W0.heap.size W0 wr := by rw [hW0]; exact h0.trans hbw
      have HC := Lib.hid (greedy2_any (X k) base _ (2 * k) (S.getD k default) St b (AD k) (CD k) t blanks ab cb gi gj number wr hDr hA (hB.st k b hbk) ((hB.rects k b hbk).keep h0r) (hJ.defs b hmem) hgk.2.2 hgk.2.1 hgk.1.1 hgk.1.2 hJ.trim.1 hn hwm.1 hi hj (hb.keep h0r) hJ.lenB)
      have v1 : IntKind.i64.wrap ((k : Int) + 1) = (k : Int) + 1 := IntWalk.i64_in _ (by have := hJ.lenS; omega)
      clear hDr hlt
      cases hq : (S.getD k default).put t.kerf b (bl blanks number) number with
      | none =>
        rw [hq] at HC HPF
        go_wp2_with (go_at_call 79; refine HC.out.mono ?_; rintro e w1 ⟨rfl, hD1, hb1⟩; have HD1 := Lib.hid hD1; have HB1 := Lib.hid hb1; clear hD1 hb1)
        go_roundw
        case rel =>
          refine ⟨k + 1, HX.out.1, by have := HX.out; go_num, Lib.hid ?_, ?_, hbw.trans HB1.out⟩
          · have h1 := HP.out
            rw [show stock.length - k = stock.length - (k + 1) + 1 by have := HX.out; omega] at h1
            exact scan_next h1 HPF.out
          · have h1 := HD1.out
            rw [Option.getD_none, setB_same hA] at h1
            exact h1
        case measure => have := HX.out; simp [intOf]; omega
      | some s' =>
        rw [hq] at HC HPF
        have HHIT : Hid (scan (putF t.kerf stock (bl blanks number) number S) stock.length 0 = some (k, s')) := Lib.hid (by
          have h1 := HP.out
          rw [show stock.length - k = stock.length - (k + 1) + 1 by have := HX.out; omega] at h1
          exact scan_hit h1 HPF.out)
        go_wp2_with (go_at_call 79; refine HC.out.mono ?_; rintro e w1 ⟨rfl, hD1, hb1⟩; have HD1 := Lib.hid hD1; have HB1 := Lib.hid hb1; clear hD1 hb1)
        go_ret
        refine ⟨ret_int (by rw [HHIT.out]; rfl), ?_, hbw.trans HB1.out⟩
        rw [HHIT.out]
        have h1 := HD1.out
        rw [Option.getD_some, deskL_set hSk] at h1
        exact h1
    · have HN : Hid (scan (putF t.kerf stock (bl blanks number) number S) stock.length 0 = none) := Lib.hid (by
        rw [HP.out, show stock.length - k = 0 by omega]; rfl)
      have hki : ¬ (k : Int) < (stock.length : Int) := by omega
      clear HP hDr
      go_wp2_with fail
      go_ret
      refine ⟨ret_int (by rw [HN.out]; rfl), ?_, hbw⟩
      rw [HN.out]; exact HDR.out
end Go.Proofs.YtpaindkfbgoogaaGreat
