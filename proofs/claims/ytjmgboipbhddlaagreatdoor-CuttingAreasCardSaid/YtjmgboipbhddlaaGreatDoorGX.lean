import Derived.Test.YtjmgboipbhddlaaGreatDoorG7
set_option linter.unusedVariables false
set_option linter.unusedSimpArgs false
namespace Go.Proofs.YtjmgboipbhddlaaGreatDoor
open Go Go.RowKit

def deskL (A C : Nat → Addr) : Nat → List BS → List Slot
 | _, [] => []
 | k, s :: S => slotC (A k) s.cuts :: slotR (C k) s.rects :: deskL A C (k + 1) S
theorem deskL_at' {A C : Nat → Addr} : ∀ {S : List BS} {j k : Nat} (hk : k < S.length), AtB (deskL A C j S) (2 * k) (A (j + k)) (C (j + k)) (S.getD k default)
 | [], _, _, hk => absurd hk (by simp)
 | s :: S, j, 0, _ => ⟨by simp [deskL], by simp [deskL]⟩
 | s :: S, j, k + 1, hk => by
  have h := deskL_at' (A := A) (C := C) (S := S) (j := j + 1) (k := k) (by simpa using hk)
  have e : 2 * (k + 1) = 2 * k + 2 := by omega
  have e2 : j + (k + 1) = j + 1 + k := by omega
  rw [e, e2]
  exact ⟨by simpa [deskL] using h.c, by simpa [deskL] using h.r⟩
theorem deskL_at {A C : Nat → Addr} {S : List BS} {k : Nat} (hk : k < S.length) : AtB (deskL A C 0 S) (2 * k) (A k) (C k) (S.getD k default) := by simpa using deskL_at' (A := A) (C := C) (j := 0) hk
theorem deskL_set' {A C : Nat → Addr} {s' : BS} : ∀ {S : List BS} {j k : Nat} (hk : k < S.length), setB (deskL A C j S) (2 * k) (A (j + k)) (C (j + k)) s' = deskL A C j (S.set k s')
 | [], _, _, hk => absurd hk (by simp)
 | s :: S, j, 0, _ => by simp [deskL, setB]
 | s :: S, j, k + 1, hk => by
  have h := deskL_set' (A := A) (C := C) (s' := s') (S := S) (j := j + 1) (k := k) (by simpa using hk)
  have e : 2 * (k + 1) = 2 * k + 1 + 1 := by omega
  have e2 : j + (k + 1) = j + 1 + k := by omega
  unfold setB at h ⊢
  rw [e, e2]
  simp only [deskL, List.set_cons_succ]
  rw [h]
theorem deskL_set {A C : Nat → Addr} {S : List BS} {s' : BS} {k : Nat} (hk : k < S.length) : setB (deskL A C 0 S) (2 * k) (A k) (C k) s' = deskL A C 0 (S.set k s') := by simpa using deskL_set' (A := A) (C := C) (s' := s') (j := 0) hk
theorem deskL_len {A C : Nat → Addr} : ∀ {S : List BS} {j : Nat}, (deskL A C j S).length = 2 * S.length
 | [], _ => rfl
 | s :: S, j => by simp only [deskL, List.length_cons, deskL_len]; omega
theorem deskL_app {A C : Nat → Addr} {s' : BS} : ∀ {S : List BS} {j : Nat}, deskL A C j (S ++ [s']) = deskL A C j S ++ [slotC (A (j + S.length)) s'.cuts, slotR (C (j + S.length)) s'.rects]
 | [], j => by simp [deskL]
 | s :: S, j => by
  simp only [List.cons_append, deskL, deskL_app, List.length_cons]
  rw [show j + 1 + S.length = j + (S.length + 1) by omega]

structure JobOk (stock : List Board) (blanks : List Blank) (t : Trim) : Prop where
 defs : ∀ b ∈ stock, DefsOk b.defects
 size : ∀ b ∈ stock, (1 ≤ b.length ∧ b.length ≤ 600000) ∧ (1 ≤ b.width ∧ b.width ≤ 100000)
 want : ∀ w ∈ blanks, ((1 ≤ w.length ∧ w.length ≤ 600000) ∧ (1 ≤ w.width ∧ w.width ≤ 600000)) ∧ (1 ≤ w.count ∧ w.count ≤ 200)
 trim : (0 ≤ t.kerf ∧ t.kerf ≤ 10000) ∧ (0 ≤ t.ends ∧ t.ends ≤ 10000) ∧ (0 ≤ t.sides ∧ t.sides ≤ 10000)
 lenS : stock.length ≤ 100
 lenB : blanks.length ≤ 30
structure GoodAll (n : Nat) (S : List BS) : Prop where
 good : ∀ s ∈ S, (GoodB s ∧ LeafB s) ∧ s.cuts ≠ [] ∧ s.cuts.length ≤ n
theorem GoodAll.get {n : Nat} {S : List BS} (h : GoodAll n S) {k : Nat} (hk : k < S.length) : (GoodB (S.getD k default) ∧ LeafB (S.getD k default)) ∧ (S.getD k default).cuts ≠ [] ∧ (S.getD k default).cuts.length ≤ n := by
 rw [List.getD_eq_getElem?_getD, List.getElem?_eq_getElem hk]; exact h.good _ (List.getElem_mem hk)

structure CellsB (W : World) (g o : Nat) (x : Blank) : Prop where
 c0 : W.cell? ⟨g, o, none⟩ = some (.string x.name)
 c1 : W.cell? ⟨g, o + 1, none⟩ = some (.string x.species)
 c2 : W.cell? ⟨g, o + 2, none⟩ = some (.int .i64 x.length)
 c3 : W.cell? ⟨g, o + 3, none⟩ = some (.int .i64 x.width)
 c4 : W.cell? ⟨g, o + 4, none⟩ = some (.int .i64 x.thick)
 c5 : W.cell? ⟨g, o + 5, none⟩ = some (.int .i64 x.count)

structure G2F (W : World) (gi gj gb o number nb cb ob : Nat) (x : Blank) : Prop where
 i : W.cell? ⟨gi, 0, none⟩ = some (.int .i64 number)
 j : W.cell? ⟨gj, 1, none⟩ = some (.slice (some ⟨gb, ob, none⟩) nb cb)
 c0 : W.cell? ⟨gb, o, none⟩ = some (.string x.name)
 c1 : W.cell? ⟨gb, o + 1, none⟩ = some (.string x.species)
 c2 : W.cell? ⟨gb, o + 2, none⟩ = some (.int .i64 x.length)
 c3 : W.cell? ⟨gb, o + 3, none⟩ = some (.int .i64 x.width)
 c4 : W.cell? ⟨gb, o + 4, none⟩ = some (.int .i64 x.thick)
 c5 : W.cell? ⟨gb, o + 5, none⟩ = some (.int .i64 x.count)

set_option maxRecDepth 100000 in
set_option maxHeartbeats 8000000 in
theorem greedy2_any (x base : Nat) (L : List Slot) (i : Nat) (s : BS) (St : Addr → Value → Prop) (b : Board) (ad : Option Addr) (cd : Nat) (t : Trim) (blanks : List Blank) (ab : Option Addr) (cb gi gj number : Nat) (w : World) (hD : Desk w base L St) (hA : AtB L i ⟨x, 11, none⟩ ⟨x, 12, none⟩ s)
    (hst : ∀ o v, (benchCells b ad cd t)[o]? = some v → St ⟨x, o, none⟩ v) (hv : Rects.V w ad b.defects) (hdf : DefsOk b.defects) (hl : s.cuts.length ≤ 80000) (hne : s.cuts ≠ []) (hgd : GoodB s) (hlf : LeafB s)
    (hkf : 0 ≤ t.kerf ∧ t.kerf ≤ 10000) (hn : number < blanks.length) (hw : ((1 ≤ (bl blanks number).length ∧ (bl blanks number).length ≤ 600000) ∧ (1 ≤ (bl blanks number).width ∧ (bl blanks number).width ≤ 600000)))
    (hi : St ⟨gi, 0, none⟩ (.int .i64 number)) (hj : St ⟨gj, 1, none⟩ (.slice ab blanks.length cb)) (hb : Blanks.V w ab blanks) (hbl : blanks.length ≤ 30) :
    Calls Tryz.prog 81 #[.pointer (some ⟨x, 0, none⟩), .pointer (some ⟨gi, 0, none⟩), .pointer (some ⟨gj, 0, none⟩)] w (PutPost base w L St i ⟨x, 11, none⟩ ⟨x, 12, none⟩ s (s.put t.kerf b (bl blanks number) number)) := by
 have c1 := hD.cell hi
 have c2 := hD.cell hj
 obtain ⟨gb, ob, rfl, hat⟩ := hb.at_ hn
 have hbe : blanks[number] = bl blanks number := by unfold bl; rw [List.getD_eq_getElem?_getD, List.getElem?_eq_getElem hn]; rfl
 rw [hbe] at hat
 have HD := Lib.hid hD
 have hsz := hD.size hA
 obtain ⟨d0, d1, d2, d3, d4, d5, -⟩ := hat
 generalize bl blanks number = want at *
 have hni : (number : Int) < (blanks.length : Int) := by omega
 go_enter Tryz.func81, Tryz.ntmps81
 go_upto_region 1 with fail
 have hF : G2F w gi gj gb (ob + number * 6) number blanks.length cb ob want := ⟨c1, c2, d0, d1, d2, d3, d4, d5⟩
 have kx : ∀ y : KW (fun W => G2F W gi gj gb (ob + number * 6) number blanks.length cb ob want), (y.w.cell? ⟨gi, 0, none⟩ = some (.int .i64 number) ∧ y.w.cell? ⟨gj, 1, none⟩ = some (.slice (some ⟨gb, ob, none⟩) blanks.length cb)) ∧ (y.w.cell? ⟨gb, ob + number * 6, none⟩ = some (.string want.name) ∧ y.w.cell? ⟨gb, ob + number * 6 + 1, none⟩ = some (.string want.species) ∧ y.w.cell? ⟨gb, ob + number * 6 + 2, none⟩ = some (.int .i64 want.length)) ∧
  y.w.cell? ⟨gb, ob + number * 6 + 3, none⟩ = some (.int .i64 want.width) ∧ y.w.cell? ⟨gb, ob + number * 6 + 4, none⟩ = some (.int .i64 want.thick) ∧ y.w.cell? ⟨gb, ob + number * 6 + 5, none⟩ = some (.int .i64 want.count) := fun y => ⟨⟨y.ok.i, y.ok.j⟩, ⟨y.ok.c0, y.ok.c1, y.ok.c2⟩, y.ok.c3, y.ok.c4, y.ok.c5⟩
 haveI n1 : Nonempty (KW (fun W => G2F W gi gj gb (ob + number * 6) number blanks.length cb ob want)) := ⟨⟨w, hF⟩⟩
 have hF' : G2F w.drew gi gj gb (ob + number * 6) number blanks.length cb ob want := ⟨c1, c2, d0, d1, d2, d3, d4, d5⟩
 have HD1 := Lib.hid (HD.out.keep (w' := w.drew) (Below.refl _ _).drew)
 have HV1 := Lib.hid (hv.keep (w' := w.drew) (Below.refl _ _).drew)
 have HB1 := Lib.hid ((Below.refl base w).drew)
 clear c1 c2 d0 d1 d2 d3 d4 d5 hD
 refine wp_region_odr [(1, fun w' => ∃ y : KW (fun W => G2F W gi gj gb (ob + number * 6) number blanks.length cb ob want), w' = y.w), (3, fun w' => ∃ y : KW (fun W => G2F W gi gj gb (ob + number * 6) number blanks.length cb ob want), w' = y.w), (4, fun w' => ∃ y : KW (fun W => G2F W gi gj gb (ob + number * 6) number blanks.length cb ob want), w' = y.w), (6, fun w' => ∃ y : KW (fun W => G2F W gi gj gb (ob + number * 6) number blanks.length cb ob want), w' = y.w)] [1, 3, 4, 6] 7 (.take 0 (.take 1 (.take 2 (.take 3 (.take 4 (.take 5 (.take 6 .done))))))) rfl (by kernel_rfl) (by kernel_rfl) ?_
 generalize w.drew = w1 at *
 repeat (refine wpOdr_take (by first | exact trivial | exact KW.mk' hF') ?_; simp only [nthOp]; (first | go_big_quiet_step (fail) | quiet_step (fail)); refine wpQuiet_nil ?_)
 refine wpOdr_done ?_
 simp only [List.drop_succ_cons, List.drop_zero]
 go_wp2_with (go_at_call 82; refine (bplace_any x base L i s St b ad cd t want number _ HD1.out hA hst HV1.out hdf hl hne hgd hlf hkf hw).mono ?_; rintro e w6 ⟨rfl, hD6, hb6⟩; have HD6 := Lib.hid hD6; have HB6 := Lib.hid hb6; clear hD6 hb6)
 refine NP_mk ?_
 go_wp2_with fail
 go_ret
 exact ⟨rfl, HD6.out, HB1.out.trans HB6.out⟩

structure Benches (W0 : World) (X : Nat → Nat) (AD : Nat → Option Addr) (CD : Nat → Nat) (t : Trim) (stock : List Board) (gb : Nat) (St : Addr → Value → Prop) : Prop where
 st : ∀ k b, stock[k]? = some b → ∀ o v, (benchCells b (AD k) (CD k) t)[o]? = some v → St ⟨X k, o, none⟩ v
 rects : ∀ k b, stock[k]? = some b → Rects.V W0 (AD k) b.defects
 ptr : ∀ k, k < stock.length → St ⟨gb, k, none⟩ (.pointer (some ⟨X k, 0, none⟩))
abbrev AC (X : Nat → Nat) : Nat → Addr := fun k => ⟨X k, 11, none⟩
abbrev AR (X : Nat → Nat) : Nat → Addr := fun k => ⟨X k, 12, none⟩
def putF (kerf : Int) (stock : List Board) (w : Blank) (number : Int) (S : List BS) : Nat → Option BS := fun k => match stock[k]? with | some b => (S.getD k default).put kerf b w number | none => none
def setO (S : List BS) (o : Option (Nat × BS)) : List BS := match o with | some x => S.set x.1 x.2 | none => S
def idxO {α : Type} (o : Option (Nat × α)) : Int := match o with | some x => (x.1 : Int) | none => -1

set_option maxRecDepth 100000 in
set_option maxHeartbeats 8000000 in
theorem idxBench_any (base : Nat) (X : Nat → Nat) (AD : Nat → Option Addr) (CD : Nat → Nat) (t : Trim) (stock : List Board) (blanks : List Blank) (S : List BS) (St : Addr → Value → Prop) (ab : Option Addr) (cb gi gj gb cp number : Nat) (W0 w : World) (hW0 : W0.heap.size = base) (h0 : Below base W0 w)
    (hD : Desk w base (deskL (AC X) (AR X) 0 S) St) (hB : Benches W0 X AD CD t stock gb St) (hJ : JobOk stock blanks t) (hS : S.length = stock.length) (hG : GoodAll 80000 S) (hn : number < blanks.length)
    (hi : St ⟨gi, 0, none⟩ (.int .i64 number)) (hj : St ⟨gj, 1, none⟩ (.slice ab blanks.length cb)) (hb : Blanks.V W0 ab blanks) :
    Calls Tryz.prog 105 #[.slice (some ⟨gb, 0, none⟩) stock.length cp, .func (.func 81) #[] #[.pointer (some ⟨gi, 0, none⟩), .pointer (some ⟨gj, 0, none⟩)]] w
     fun e w' => e = .returned (.int .i64 (idxO (scan (putF t.kerf stock (bl blanks number) number S) stock.length 0))) ∧ Desk w' base (deskL (AC X) (AR X) 0 (setO S (scan (putF t.kerf stock (bl blanks number) number S) stock.length 0))) St ∧ Below base w w' := by
 go_enter Tryz.func105, Tryz.ntmps105
 go_wp2
 have HSC := Lib.hid (show scan (putF t.kerf stock (bl blanks number) number S) stock.length 0 = scan (putF t.kerf stock (bl blanks number) number S) (stock.length - 0) 0 from rfl)
 go_loopw [8] (fun iv wr => ∃ k : Nat, k ≤ stock.length ∧ iv = .int .i64 k ∧ Hid (scan (putF t.kerf stock (bl blanks number) number S) stock.length 0 = scan (putF t.kerf stock (bl blanks number) number S) (stock.length - k) k) ∧ Desk wr base (deskL (AC X) (AR X) 0 S) St ∧ Below base w wr) (fun iv _ => stock.length - (intOf iv).toNat)
 case atStart => exact ⟨0, Nat.zero_le _, rfl, HSC, hD, Below.refl _ _⟩
 case round =>
  clear HSC
  obtain ⟨k, hk, rfl, HP, hDr, hbw⟩ := hrel
  have HDR := Lib.hid hDr
  by_cases hlt : k < stock.length
  ·obtain ⟨b, hbk⟩ : ∃ b, stock[k]? = some b := ⟨_, List.getElem?_eq_getElem hlt⟩
   have hmem : b ∈ stock := List.mem_of_getElem? hbk
   have hSk : k < S.length := by omega
   have hA := deskL_at (A := AC X) (C := AR X) hSk
   have hgk := hG.get hSk
   have hp := hDr.cell (hB.ptr k hlt)
   have hki : (k : Int) < (stock.length : Int) := by omega
   have HPF := Lib.hid (show putF t.kerf stock (bl blanks number) number S k = (S.getD k default).put t.kerf b (bl blanks number) number by unfold putF; rw [hbk])
   have HX := Lib.hid (show k < stock.length ∧ stock.length ≤ 100 from ⟨hlt, hJ.lenS⟩)
   have hwm := hJ.want (bl blanks number) (by unfold bl; rw [List.getD_eq_getElem?_getD, List.getElem?_eq_getElem hn]; exact List.getElem_mem hn)
   have h0r : Below W0.heap.size W0 wr := by rw [hW0]; exact h0.trans hbw
   have HC := Lib.hid (greedy2_any (X k) base _ (2 * k) (S.getD k default) St b (AD k) (CD k) t blanks ab cb gi gj number wr hDr hA (hB.st k b hbk) ((hB.rects k b hbk).keep h0r) (hJ.defs b hmem) hgk.2.2 hgk.2.1 hgk.1.1 hgk.1.2 hJ.trim.1 hn hwm.1 hi hj (hb.keep h0r) hJ.lenB)
   have v1 : IntKind.i64.wrap ((k : Int) + 1) = (k : Int) + 1 := IntWalk.i64_in _ (by have := hJ.lenS; omega)
   clear hDr hlt
   cases hq : (S.getD k default).put t.kerf b (bl blanks number) number with
   | none =>
    rw [hq] at HC HPF
    go_wp2_with (go_at_call 81; refine HC.out.mono ?_; rintro e w1 ⟨rfl, hD1, hb1⟩; have HD1 := Lib.hid hD1; have HB1 := Lib.hid hb1; clear hD1 hb1)
    go_roundw
    case rel =>
     refine ⟨k + 1, HX.out.1, by have := HX.out; go_num, Lib.hid ?_, ?_, hbw.trans HB1.out⟩
     ·have h1 := HP.out
      rw [show stock.length - k = stock.length - (k + 1) + 1 by have := HX.out; omega] at h1
      exact scan_next h1 HPF.out
     ·have h1 := HD1.out
      rw [Option.getD_none, setB_same hA] at h1
      exact h1
    case measure => have := HX.out; simp [intOf]; omega
   | some s' =>
    rw [hq] at HC HPF
    have HHIT : Hid (scan (putF t.kerf stock (bl blanks number) number S) stock.length 0 = some (k, s')) := Lib.hid (by
     have h1 := HP.out
     rw [show stock.length - k = stock.length - (k + 1) + 1 by have := HX.out; omega] at h1
     exact scan_hit h1 HPF.out)
    go_wp2_with (go_at_call 81; refine HC.out.mono ?_; rintro e w1 ⟨rfl, hD1, hb1⟩; have HD1 := Lib.hid hD1; have HB1 := Lib.hid hb1; clear hD1 hb1)
    go_ret
    refine ⟨ret_int (by rw [HHIT.out]; rfl), ?_, hbw.trans HB1.out⟩
    rw [HHIT.out]
    have h1 := HD1.out
    rw [Option.getD_some, deskL_set hSk] at h1
    exact h1
  ·have HN : Hid (scan (putF t.kerf stock (bl blanks number) number S) stock.length 0 = none) := Lib.hid (by
     rw [HP.out, show stock.length - k = 0 by omega]; rfl)
   have hki : ¬ (k : Int) < (stock.length : Int) := by omega
   clear HP hDr
   go_wp2_with fail
   go_ret
   refine ⟨ret_int (by rw [HN.out]; rfl), ?_, hbw⟩
   rw [HN.out]; exact HDR.out
end Go.Proofs.YtjmgboipbhddlaaGreatDoor
set_option linter.unusedVariables false
set_option linter.unusedSimpArgs false
namespace Go.Proofs.YtjmgboipbhddlaaGreatDoor
open Go Go.RowKit

theorem idxO_bool {α : Type} (o : Option (Nat × α)) : decide (0 ≤ idxO o) = o.isSome := by
 cases o with
 | none => rfl
 | some x => simp [idxO]
set_option maxHeartbeats 1000000 in
theorem hasBench_any (base : Nat) (X : Nat → Nat) (AD : Nat → Option Addr) (CD : Nat → Nat) (t : Trim) (stock : List Board) (blanks : List Blank) (S : List BS) (St : Addr → Value → Prop) (ab : Option Addr) (cb gi gj gb cp number : Nat) (W0 w : World) (hW0 : W0.heap.size = base) (h0 : Below base W0 w)
    (hD : Desk w base (deskL (AC X) (AR X) 0 S) St) (hB : Benches W0 X AD CD t stock gb St) (hJ : JobOk stock blanks t) (hS : S.length = stock.length) (hG : GoodAll 80000 S) (hn : number < blanks.length)
    (hi : St ⟨gi, 0, none⟩ (.int .i64 number)) (hj : St ⟨gj, 1, none⟩ (.slice ab blanks.length cb)) (hb : Blanks.V W0 ab blanks) :
    Calls Tryz.prog 80 #[.slice (some ⟨gb, 0, none⟩) stock.length cp, .func (.func 81) #[] #[.pointer (some ⟨gi, 0, none⟩), .pointer (some ⟨gj, 0, none⟩)]] w
     fun e w' => e = .returned (.bool (scan (putF t.kerf stock (bl blanks number) number S) stock.length 0).isSome) ∧ Desk w' base (deskL (AC X) (AR X) 0 (setO S (scan (putF t.kerf stock (bl blanks number) number S) stock.length 0))) St ∧ Below base w w' := by
 have HC := Lib.hid (idxBench_any base X AD CD t stock blanks S St ab cb gi gj gb cp number W0 w hW0 h0 hD hB hJ hS hG hn hi hj hb)
 generalize scan (putF t.kerf stock (bl blanks number) number S) stock.length 0 = o at *
 have HO := Lib.hid (idxO_bool o)
 clear hD hB hJ hG
 generalize idxO o = q at *
 go_enter Tryz.func80, Tryz.ntmps80
 go_wp2_with (go_at_call 105; refine HC.out.mono ?_; rintro e w1 ⟨rfl, hD1, hb1⟩; have HD1 := Lib.hid hD1; have HB1 := Lib.hid hb1; clear hD1 hb1)
 go_ret
 exact ⟨ret_bool (by rw [← HO.out]), HD1.out, HB1.out⟩

def isPiece (x : Cut) : Bool := decide (x.low = 0) && decide (0 ≤ x.blank)
set_option maxHeartbeats 1000000 in
theorem greedy3_any (x : Cut) (w : World) : Calls Tryz.prog 84 #[.agg #[.bool x.across, .int .i64 x.at_, .int .i64 x.low, .int .i64 x.high, .int .i64 x.blank]] w fun e w' => e = .returned (.bool (isPiece x)) ∧ Below w.heap.size w w' := by
 by_cases h1 : x.low = 0
 ·have HL := Lib.hid (show decide (x.low = 0) = true by simp [h1])
  have HP := Lib.hid (show isPiece x = decide (0 ≤ x.blank) by simp [isPiece, h1])
  clear h1
  go_enter Tryz.func84, Tryz.ntmps84
  go_wp2_with (go_at_call 28; refine (leaf_any x _).mono ?_; rw [HL.out]; rintro e w1 ⟨rfl, hb⟩; obtain ⟨hc, hf⟩ := bcell hb; have hz := hb.size; simp at hz)
  go_ret
  exact ⟨ret_bool (by rw [HP.out]), ((Below.refl _ _).alloc (Nat.le_refl _) _).trans (hb.mono (by simp))⟩
 ·have HL := Lib.hid (show decide (x.low = 0) = false by simp [h1])
  have HP := Lib.hid (show isPiece x = false by simp [isPiece, h1])
  clear h1
  go_enter Tryz.func84, Tryz.ntmps84
  go_wp2_with (go_at_call 28; refine (leaf_any x _).mono ?_; rw [HL.out]; rintro e w1 ⟨rfl, hb⟩; obtain ⟨hc, hf⟩ := bcell hb; have hz := hb.size; simp at hz)
  go_ret
  exact ⟨ret_bool HP.out.symm, ((Below.refl _ _).alloc (Nat.le_refl _) _).trans (hb.mono (by simp))⟩
set_option maxHeartbeats 1000000 in
theorem idxCut_any (a : Option Addr) (l : List Cut) (c : Nat) (w : World) (hv : Cuts.V w a l) (hl : l.length ≤ 9223372036854775807) :
    Calls Tryz.prog 108 #[.slice a l.length c, .func (.func 84) #[] #[]] w
     fun e w' => e = .returned (.int .i64 (idxOf isPiece l)) ∧ Below w.heap.size w w' := by
 go_enter Tryz.func108, Tryz.ntmps108
 go_wp2
 go_loopw [8] (fun i wr => ∃ k : Nat, k ≤ l.length ∧ i = .int .i64 k ∧ Hid (∀ j (hj : j < l.length), j < k → isPiece l[j] = false) ∧ Below w.heap.size w wr) (fun i _ => l.length - (intOf i).toNat)
 case atStart => exact ⟨0, Nat.zero_le _, rfl, Lib.hid (fun j _ h => by omega), Below.refl _ _⟩
 case round =>
  obtain ⟨k, hk, rfl, HK, hbw⟩ := hrel
  have hsz := hbw.size
  by_cases hlt : k < l.length
  ·obtain ⟨b, off, rfl, hat⟩ := (hv.keep hbw).at_ hlt
   obtain ⟨c0, c1, c2, c3, c4, -⟩ := hat
   have HH := Lib.hid (fun h => idxOf_hit (p := isPiece) hlt HK.out h)
   have HN := Lib.hid (fun h => none_step (p := isPiece) HK.out hlt h)
   generalize l[k] = d at *
   cases hq : isPiece d
   ·go_wp2_with (go_at_call 84; refine (greedy3_any d _).mono ?_; rw [hq]; rintro e w1 ⟨rfl, hb⟩)
    go_round
    case rel => exact ⟨k + 1, by omega, by go_num, Lib.hid (HN.out hq), hbw.trans (hb.mono hsz)⟩
    case measure => simp [intOf]; omega
   ·go_wp2_with (go_at_call 84; refine (greedy3_any d _).mono ?_; rw [hq]; rintro e w1 ⟨rfl, hb⟩)
    go_ret
    exact ⟨ret_int (HH.out hq).symm, hbw.trans (hb.mono hsz)⟩
  ·have hm := Lib.hid (idxOf_miss (p := isPiece) (l := l) (fun j hj => HK.out j hj (by omega)))
   clear HK
   go_wp2
   go_ret
   exact ⟨ret_int hm.out.symm, hbw⟩
theorem hasCut_any (a : Option Addr) (l : List Cut) (c : Nat) (w : World) (hv : Cuts.V w a l) (hl : l.length ≤ 9223372036854775807) :
    Calls Tryz.prog 83 #[.slice a l.length c, .func (.func 84) #[] #[]] w
     fun e w' => e = .returned (.bool (l.any isPiece)) ∧ Below w.heap.size w w' := by
 have hi := Lib.hid (idxOf_bool isPiece l)
 go_enter Tryz.func83, Tryz.ntmps83
 go_wp2_with (go_at_call 108; refine (idxCut_any a l c _ hv hl).mono ?_; rintro e w1 ⟨rfl, hb⟩)
 go_ret
 exact ⟨ret_bool (by rw [← hi.out]), hb⟩

theorem isNaN_any (x : Int) (w : World) : Calls Tryz.prog 104 #[.int .i64 x] w fun e w' => e = .returned (.bool false) ∧ w = w' := by
 go_enter Tryz.func104, Tryz.ntmps104
 go_wp2
 go_ret
 exact ⟨ret_bool (by simp), rfl⟩
def cmpI (x y : Int) : Int := if x < y then -1 else if y < x then 1 else 0
theorem compare_any (x y : Int) (w : World) : Calls Tryz.prog 79 #[.int .i64 x, .int .i64 y] w fun e w' => e = .returned (.int .i64 (cmpI x y)) ∧ w = w' := by
 go_enter Tryz.func79, Tryz.ntmps79
 go_wp2_with (go_at_call 104; refine (isNaN_any _ _).mono ?_; rintro e w' ⟨rfl, rfl⟩)
 all_goals (go_ret; exact ⟨ret_int (by unfold cmpI; split <;> (try split) <;> omega), rfl⟩)
def orI (x y : Int) : Int := if x ≠ 0 then x else y
theorem or_any (x y : Int) (g o c : Nat) (w : World) (h0 : w.cell? ⟨g, o, none⟩ = some (.int .i64 x)) (h1 : w.cell? ⟨g, o + 1, none⟩ = some (.int .i64 y)) :
    Calls Tryz.prog 78 #[.slice (some ⟨g, o, none⟩) 2 c] w fun e w' => e = .returned (.int .i64 (orI x y)) ∧ w = w' := by
 go_enter Tryz.func78, Tryz.ntmps78
 go_wp2_with (first
  | (with_reducible refine rounds_step ?_)
  | (with_reducible refine wp_loop_rounds 3 ?_))
 all_goals (go_ret; exact ⟨ret_int (by unfold orI; simp_all), rfl⟩)
end Go.Proofs.YtjmgboipbhddlaaGreatDoor
set_option linter.unusedVariables false
set_option linter.unusedSimpArgs false
namespace Go.Proofs.YtjmgboipbhddlaaGreatDoor
open Go Go.RowKit

theorem grow_of {w w' : World} (hb : Below w.heap.size w w') (hd : w.drawn ≤ w'.drawn) : ∃ q os', w' = Go.Sort.grow (w.drewN q) os' := by
 refine ⟨w'.drawn - w.drawn, w'.heap.extract w.heap.size w'.heap.size, ?_⟩
 have h1 := hb.size
 have hh : w'.heap = w.heap ++ w'.heap.extract w.heap.size w'.heap.size := by
  apply Array.ext_getElem?
  intro i
  by_cases hi : i < w.heap.size
  ·rw [hb.block i hi, Array.getElem?_append_left hi]
  ·rw [Array.getElem?_append_right (by omega), Array.getElem?_extract]
   by_cases h2 : i < w'.heap.size
   ·rw [if_pos (by omega)]; congr 1; omega
   ·rw [if_neg (by omega), Array.getElem?_eq_none (by omega)]
 unfold Go.Sort.grow World.drewN
 cases w' with
 | mk heap tape drawn os output =>
  simp only at *
  have := hb.os; have := hb.tape; have := hb.output
  simp only at *
  subst_vars
  congr 1
  omega
structure G1F (W : World) (gj gb o1 o2 n cb ob : Nat) (x y : Blank) : Prop where
 j : W.cell? ⟨gj, 1, none⟩ = some (.slice (some ⟨gb, ob, none⟩) n cb)
 x : CellsB W gb o1 x
 y : CellsB W gb o2 y
theorem CellsB.keep {W W' : World} {g o : Nat} {x : Blank} (h : CellsB W g o x) (hb : Below W.heap.size W W') : CellsB W' g o x :=
 ⟨cell_keep hb h.c0, cell_keep hb h.c1, cell_keep hb h.c2, cell_keep hb h.c3, cell_keep hb h.c4, cell_keep hb h.c5⟩
theorem G1F.keep {W W' : World} {gj gb o1 o2 n cb ob : Nat} {x y : Blank} (h : G1F W gj gb o1 o2 n cb ob x y) (hb : Below W.heap.size W W') : G1F W' gj gb o1 o2 n cb ob x y :=
 ⟨cell_keep hb h.j, h.x.keep hb, h.y.keep hb⟩
structure C2F (W : World) (g6 g7 : Nat) (x y : Blank) : Prop where
 a : W.cell? ⟨g6, 2, none⟩ = some (.int .i64 x.length)
 b : W.cell? ⟨g6, 3, none⟩ = some (.int .i64 x.width)
 c : W.cell? ⟨g7, 2, none⟩ = some (.int .i64 y.length)
 d : W.cell? ⟨g7, 3, none⟩ = some (.int .i64 y.width)
def cmpB (x y : Blank) : Int := orI (cmpI (y.length * y.width) (x.length * x.width)) (cmpI y.length x.length)

set_option maxRecDepth 100000 in
set_option maxHeartbeats 8000000 in
theorem greedy1_any (gj : Nat) (blanks : List Blank) (ab : Option Addr) (cb a b : Nat) (w : World) (hj : w.cell? ⟨gj, 1, none⟩ = some (.slice ab blanks.length cb)) (hb : Blanks.V w ab blanks) (hl : blanks.length ≤ 30) (ha : a < blanks.length) (hb' : b < blanks.length)
    (hsz : ∀ x ∈ blanks, (1 ≤ x.length ∧ x.length ≤ 600000) ∧ (1 ≤ x.width ∧ x.width ≤ 600000)) :
    Calls Tryz.prog 77 #[.int .i64 a, .int .i64 b, .pointer (some ⟨gj, 0, none⟩)] w fun e w' => e = .returned (.int .i64 (cmpB blanks[a] blanks[b])) ∧ (Below w.heap.size w w' ∧ w.drawn ≤ w'.drawn) := by
 obtain ⟨gb, ob, rfl, hx⟩ := hb.at_ ha
 obtain ⟨gb', ob', he, hy⟩ := hb.at_ hb'
 injection he with he
 injection he with e1 e2
 subst e1 e2
 obtain ⟨hs1, hs2⟩ := hsz _ (List.getElem_mem ha)
 obtain ⟨ht1, ht2⟩ := hsz _ (List.getElem_mem hb')
 have hai : (a : Int) < (blanks.length : Int) := by omega
 have hbi : (b : Int) < (blanks.length : Int) := by omega
 generalize blanks[a] = xa at *
 generalize blanks[b] = xb at *
 clear hsz hb ha hb'
 generalize blanks.length = n at *
 obtain ⟨x0, x1, x2, x3, x4, x5, -⟩ := hx
 obtain ⟨y0, y1, y2, y3, y4, y5, -⟩ := hy
 have hp1 : 0 ≤ xa.length * xa.width ∧ xa.length * xa.width ≤ 360000000000 := ⟨Int.mul_nonneg (by omega) (by omega), by have : xa.length * xa.width ≤ 600000 * 600000 := Int.mul_le_mul (by omega) (by omega) (by omega) (by omega); omega⟩
 have hp2 : 0 ≤ xb.length * xb.width ∧ xb.length * xb.width ≤ 360000000000 := ⟨Int.mul_nonneg (by omega) (by omega), by have : xb.length * xb.width ≤ 600000 * 600000 := Int.mul_le_mul (by omega) (by omega) (by omega) (by omega); omega⟩
 have v1 : IntKind.i64.wrap (xa.length * xa.width) = xa.length * xa.width := IntWalk.i64_in _ (by omega)
 have v2 : IntKind.i64.wrap (xb.length * xb.width) = xb.length * xb.width := IntWalk.i64_in _ (by omega)
 have hG : G1F w gj gb (ob + a * 6) (ob + b * 6) n cb ob xa xb := ⟨hj, ⟨x0, x1, x2, x3, x4, x5⟩, ⟨y0, y1, y2, y3, y4, y5⟩⟩
 clear hj x0 x1 x2 x3 x4 x5 y0 y1 y2 y3 y4 y5
 go_enter Tryz.func77, Tryz.ntmps77
 go_upto_region 1 with fail
 haveI n1 : Nonempty (KW (fun W => G1F W gj gb (ob + a * 6) (ob + b * 6) n cb ob xa xb)) := ⟨⟨w, hG⟩⟩
 have kx : ∀ y : KW (fun W => G1F W gj gb (ob + a * 6) (ob + b * 6) n cb ob xa xb), (y.w.cell? ⟨gj, 1, none⟩ = some (.slice (some ⟨gb, ob, none⟩) n cb)) ∧ (y.w.cell? ⟨gb, ob + a * 6, none⟩ = some (.string xa.name) ∧ y.w.cell? ⟨gb, ob + a * 6 + 1, none⟩ = some (.string xa.species) ∧ y.w.cell? ⟨gb, ob + a * 6 + 2, none⟩ = some (.int .i64 xa.length) ∧
     y.w.cell? ⟨gb, ob + a * 6 + 3, none⟩ = some (.int .i64 xa.width) ∧ y.w.cell? ⟨gb, ob + a * 6 + 4, none⟩ = some (.int .i64 xa.thick) ∧ y.w.cell? ⟨gb, ob + a * 6 + 5, none⟩ = some (.int .i64 xa.count)) ∧
     (y.w.cell? ⟨gb, ob + b * 6, none⟩ = some (.string xb.name) ∧ y.w.cell? ⟨gb, ob + b * 6 + 1, none⟩ = some (.string xb.species) ∧ y.w.cell? ⟨gb, ob + b * 6 + 2, none⟩ = some (.int .i64 xb.length) ∧
     y.w.cell? ⟨gb, ob + b * 6 + 3, none⟩ = some (.int .i64 xb.width) ∧ y.w.cell? ⟨gb, ob + b * 6 + 4, none⟩ = some (.int .i64 xb.thick) ∧ y.w.cell? ⟨gb, ob + b * 6 + 5, none⟩ = some (.int .i64 xb.count)) := fun y => ⟨y.ok.j, ⟨y.ok.x.c0, y.ok.x.c1, y.ok.x.c2, y.ok.x.c3, y.ok.x.c4, y.ok.x.c5⟩, ⟨y.ok.y.c0, y.ok.y.c1, y.ok.y.c2, y.ok.y.c3, y.ok.y.c4, y.ok.y.c5⟩⟩
 have HB0 := Lib.hid ((Below.refl w.heap.size w).drew)
 have HD0 := Lib.hid (show w.drawn ≤ w.drew.drawn from Nat.le_succ _)
 have hG := hG.keep (Below.refl _ _).drew
 refine wp_region_odr [(1, fun w' => ∃ y : KW (fun W => G1F W gj gb (ob + a * 6) (ob + b * 6) n cb ob xa xb), w' = y.w), (4, fun w' => ∃ y : KW (fun W => G1F W gj gb (ob + a * 6) (ob + b * 6) n cb ob xa xb), w' = y.w), (6, fun w' => ∃ y : KW (fun W => G1F W gj gb (ob + a * 6) (ob + b * 6) n cb ob xa xb), w' = y.w), (9, fun w' => ∃ y : KW (fun W => G1F W gj gb (ob + a * 6) (ob + b * 6) n cb ob xa xb), w' = y.w)] [1, 4, 6, 9] 13
  (.take 0 (.take 1 (.take 2 (.take 3 (.take 4 (.take 5 (.take 6 (.take 7 (.take 8 (.take 9 (.two 10 [1, 4, 6, 9] (.one 11 [1, 4, 6, 9] (.one 12 [6, 9] .done)) 11 [1, 4, 6, 9] (.one 10 [1, 4, 6, 9] (.one 12 [6, 9] .done))))))))))))) rfl (by kernel_rfl) (by kernel_rfl) ?_
 generalize w.drew = w1 at *
 repeat (refine wpOdr_take (by first | exact trivial | exact KW.mk' hG) ?_; simp only [nthOp]; (first | go_big_quiet_step (fail) | quiet_step (fail)); refine wpQuiet_nil ?_)
 refine wpOdr_two ?_ ?_
 ·obtain ⟨g6, hg6⟩ : ∃ g, g = w1.heap.size := ⟨_, rfl⟩
  obtain ⟨g7, hg7⟩ : ∃ g, g = w1.heap.size + 1 := ⟨_, rfl⟩
  simp only [nthOp]
  go_wp2_with fail
  refine One_odr (by repeat (first | exact Obl.nil | (refine Obl.out rfl ?_) | (refine Obl.in (KW.mk' (hG.keep (Below.alloc (Below.refl _ _) (Nat.le_refl _) _))) ?_))) ?_
  refine wpOdr_one ?_
  simp only [nthOp]
  go_wp2_with fail
  refine One_odr (by repeat (first | exact Obl.nil | (refine Obl.out rfl ?_) | (refine Obl.in (KW.mk' ((hG.keep (Below.alloc (Below.refl _ _) (Nat.le_refl _) _)).keep (Below.alloc (Below.refl _ _) (Nat.le_refl _) _))) ?_))) ?_
  refine wpOdr_one ?_
  simp only [nthOp]
  go_wp2_with fail
  refine One_odr (by repeat (first | exact Obl.nil | (refine Obl.out rfl ?_) | (refine Obl.in (KW.mk' ((hG.keep (Below.alloc (Below.refl _ _) (Nat.le_refl _) _)).keep (Below.alloc (Below.refl _ _) (Nat.le_refl _) _))) ?_))) (wpOdr_done ?_)
  simp only [List.drop_succ_cons, List.drop_zero]
  go_wp2_with fail
  refine NP_mk ?_
  go_upto_region 2 with fail
  refine gen_world (fun W => C2F W g6 g7 xa xb ∧ Below w.heap.size w W ∧ w.drawn ≤ W.drawn) ⟨⟨by simp [hg6, hg7], by simp [hg6, hg7], by simp [hg6, hg7], by simp [hg6, hg7]⟩, (HB0.out.alloc HB0.out.size _).alloc (by have := HB0.out.size; simp; omega) _, HD0.out⟩ ?_
  rintro W ⟨hF, hbW, hdW⟩
  first | rw [← hg6, ← hg7] | rw [← hg7, ← hg6]
  have HB2 := Lib.hid hbW
  have HD2 := Lib.hid hdW
  have hzW := hbW.size
  clear hbW hdW hG HB0 HD0 hg6 hg7 kx n1
  haveI n2 : Nonempty (KW (fun W => C2F W g6 g7 xa xb)) := ⟨⟨W, hF⟩⟩
  have k2 : ∀ y : KW (fun W => C2F W g6 g7 xa xb), (y.w.cell? ⟨g6, 2, none⟩ = some (.int .i64 xa.length) ∧ y.w.cell? ⟨g6, 3, none⟩ = some (.int .i64 xa.width)) ∧ (y.w.cell? ⟨g7, 2, none⟩ = some (.int .i64 xb.length) ∧ y.w.cell? ⟨g7, 3, none⟩ = some (.int .i64 xb.width)) := fun y => ⟨⟨y.ok.a, y.ok.b⟩, y.ok.c, y.ok.d⟩
  have HB3 := Lib.hid (HB2.out.drew)
  have HD3 := Lib.hid (show w.drawn ≤ W.drew.drawn from Nat.le_succ_of_le HD2.out)
  have hG : C2F W.drew g6 g7 xa xb := ⟨hF.a, hF.b, hF.c, hF.d⟩
  refine wp_region_odr [(1, fun w' => ∃ y : KW (fun W => C2F W g6 g7 xa xb), w' = y.w), (3, fun w' => ∃ y : KW (fun W => C2F W g6 g7 xa xb), w' = y.w), (6, fun w' => ∃ y : KW (fun W => C2F W g6 g7 xa xb), w' = y.w), (8, fun w' => ∃ y : KW (fun W => C2F W g6 g7 xa xb), w' = y.w), (12, fun w' => ∃ y : KW (fun W => C2F W g6 g7 xa xb), w' = y.w), (14, fun w' => ∃ y : KW (fun W => C2F W g6 g7 xa xb), w' = y.w)] [1, 3, 6, 8, 12, 14] 15
   (.take 0 (.take 1 (.take 2 (.take 3 (.take 4 (.take 5 (.take 6 (.take 7 (.take 8 (.take 9 (.take 11 (.take 12 (.take 13 (.take 14 (.one 10 [1, 3, 6, 8, 12, 14] .done))))))))))))))) rfl (by kernel_rfl) (by kernel_rfl) ?_
  have hzD : W.heap.size = W.drew.heap.size := rfl
  generalize W.drew = W4 at *
  repeat (refine wpOdr_take (by first | exact trivial | exact KW.mk' hG) ?_; simp only [nthOp]; (first | go_big_quiet_step (fail) | quiet_step (fail)); refine wpQuiet_nil ?_)
  refine wpOdr_one ?_
  simp only [nthOp]
  go_wp2_with (go_at_call 79; refine (compare_any _ _ _).mono ?_; rintro e w' ⟨rfl, rfl⟩)
  refine One_odr (by repeat (first | exact Obl.nil | (refine Obl.out rfl ?_) | (refine Obl.in (KW.mk' hG) ?_))) (wpOdr_done ?_)
  simp only [List.drop_succ_cons, List.drop_zero]
  go_wp2_with (first
   | (go_at_call 79; refine (compare_any _ _ _).mono ?_; rintro e w' ⟨rfl, rfl⟩)
   | (go_at_call 78; refine (or_any (cmpI (xb.length * xb.width) (xa.length * xa.width)) (cmpI xb.length xa.length) _ 0 _ _ (by simp) (by simp)).mono ?_; rintro e w' ⟨rfl, rfl⟩))
  refine NP_mk ?_
  go_wp2_with fail
  go_ret
  exact ⟨rfl, HB3.out.alloc HB3.out.size _, HD3.out⟩
 ·obtain ⟨g6, hg6⟩ : ∃ g, g = w1.heap.size + 1 := ⟨_, rfl⟩
  obtain ⟨g7, hg7⟩ : ∃ g, g = w1.heap.size := ⟨_, rfl⟩
  simp only [nthOp]
  go_wp2_with fail
  refine One_odr (by repeat (first | exact Obl.nil | (refine Obl.out rfl ?_) | (refine Obl.in (KW.mk' (hG.keep (Below.alloc (Below.refl _ _) (Nat.le_refl _) _))) ?_))) ?_
  refine wpOdr_one ?_
  simp only [nthOp]
  go_wp2_with fail
  refine One_odr (by repeat (first | exact Obl.nil | (refine Obl.out rfl ?_) | (refine Obl.in (KW.mk' ((hG.keep (Below.alloc (Below.refl _ _) (Nat.le_refl _) _)).keep (Below.alloc (Below.refl _ _) (Nat.le_refl _) _))) ?_))) ?_
  refine wpOdr_one ?_
  simp only [nthOp]
  go_wp2_with fail
  refine One_odr (by repeat (first | exact Obl.nil | (refine Obl.out rfl ?_) | (refine Obl.in (KW.mk' ((hG.keep (Below.alloc (Below.refl _ _) (Nat.le_refl _) _)).keep (Below.alloc (Below.refl _ _) (Nat.le_refl _) _))) ?_))) (wpOdr_done ?_)
  simp only [List.drop_succ_cons, List.drop_zero]
  go_wp2_with fail
  refine NP_mk ?_
  go_upto_region 2 with fail
  refine gen_world (fun W => C2F W g6 g7 xa xb ∧ Below w.heap.size w W ∧ w.drawn ≤ W.drawn) ⟨⟨by simp [hg6, hg7], by simp [hg6, hg7], by simp [hg6, hg7], by simp [hg6, hg7]⟩, (HB0.out.alloc HB0.out.size _).alloc (by have := HB0.out.size; simp; omega) _, HD0.out⟩ ?_
  rintro W ⟨hF, hbW, hdW⟩
  first | rw [← hg6, ← hg7] | rw [← hg7, ← hg6]
  have HB2 := Lib.hid hbW
  have HD2 := Lib.hid hdW
  have hzW := hbW.size
  clear hbW hdW hG HB0 HD0 hg6 hg7 kx n1
  haveI n2 : Nonempty (KW (fun W => C2F W g6 g7 xa xb)) := ⟨⟨W, hF⟩⟩
  have k2 : ∀ y : KW (fun W => C2F W g6 g7 xa xb), (y.w.cell? ⟨g6, 2, none⟩ = some (.int .i64 xa.length) ∧ y.w.cell? ⟨g6, 3, none⟩ = some (.int .i64 xa.width)) ∧ (y.w.cell? ⟨g7, 2, none⟩ = some (.int .i64 xb.length) ∧ y.w.cell? ⟨g7, 3, none⟩ = some (.int .i64 xb.width)) := fun y => ⟨⟨y.ok.a, y.ok.b⟩, y.ok.c, y.ok.d⟩
  have HB3 := Lib.hid (HB2.out.drew)
  have HD3 := Lib.hid (show w.drawn ≤ W.drew.drawn from Nat.le_succ_of_le HD2.out)
  have hG : C2F W.drew g6 g7 xa xb := ⟨hF.a, hF.b, hF.c, hF.d⟩
  refine wp_region_odr [(1, fun w' => ∃ y : KW (fun W => C2F W g6 g7 xa xb), w' = y.w), (3, fun w' => ∃ y : KW (fun W => C2F W g6 g7 xa xb), w' = y.w), (6, fun w' => ∃ y : KW (fun W => C2F W g6 g7 xa xb), w' = y.w), (8, fun w' => ∃ y : KW (fun W => C2F W g6 g7 xa xb), w' = y.w), (12, fun w' => ∃ y : KW (fun W => C2F W g6 g7 xa xb), w' = y.w), (14, fun w' => ∃ y : KW (fun W => C2F W g6 g7 xa xb), w' = y.w)] [1, 3, 6, 8, 12, 14] 15
   (.take 0 (.take 1 (.take 2 (.take 3 (.take 4 (.take 5 (.take 6 (.take 7 (.take 8 (.take 9 (.take 11 (.take 12 (.take 13 (.take 14 (.one 10 [1, 3, 6, 8, 12, 14] .done))))))))))))))) rfl (by kernel_rfl) (by kernel_rfl) ?_
  have hzD : W.heap.size = W.drew.heap.size := rfl
  generalize W.drew = W4 at *
  repeat (refine wpOdr_take (by first | exact trivial | exact KW.mk' hG) ?_; simp only [nthOp]; (first | go_big_quiet_step (fail) | quiet_step (fail)); refine wpQuiet_nil ?_)
  refine wpOdr_one ?_
  simp only [nthOp]
  go_wp2_with (go_at_call 79; refine (compare_any _ _ _).mono ?_; rintro e w' ⟨rfl, rfl⟩)
  refine One_odr (by repeat (first | exact Obl.nil | (refine Obl.out rfl ?_) | (refine Obl.in (KW.mk' hG) ?_))) (wpOdr_done ?_)
  simp only [List.drop_succ_cons, List.drop_zero]
  go_wp2_with (first
   | (go_at_call 79; refine (compare_any _ _ _).mono ?_; rintro e w' ⟨rfl, rfl⟩)
   | (go_at_call 78; refine (or_any (cmpI (xb.length * xb.width) (xa.length * xa.width)) (cmpI xb.length xa.length) _ 0 _ _ (by simp) (by simp)).mono ?_; rintro e w' ⟨rfl, rfl⟩))
  refine NP_mk ?_
  go_wp2_with fail
  go_ret
  exact ⟨rfl, HB3.out.alloc HB3.out.size _, HD3.out⟩
end Go.Proofs.YtjmgboipbhddlaaGreatDoor
