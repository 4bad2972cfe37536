import Derived.Test.YtjmgboipbhddlaaGreatDoorQD
import Derived.Test.YtjmgboipbhddlaaGreatDoorQA
import Derived.Test.YtjmgboipbhddlaaGreatDoorQT
set_option linter.unusedVariables false
set_option linter.unusedSimpArgs false
namespace Go.Proofs.YtjmgboipbhddlaaGreatDoor
open Go Go.RowKit

def newSt (g : Nat) (cs : List Value) : Addr → Value → Prop := fun a v => ∃ j, a = ⟨g, j, none⟩ ∧ cs[j]? = some v
theorem new_cells {W : World} {cs : List Value} {T : TypeId} : ∀ a v, newSt W.heap.size cs a v → a.spot = none ∧ W.heap.size ≤ a.block ∧ (W.alloc (.cells cs.toArray T)).cell? a = some v := by
 rintro a v ⟨j, rfl, h⟩
 exact ⟨rfl, Nat.le_refl _, by rw [World.cell?_alloc_new]; simpa using h⟩
theorem Owned.new {W : World} {base : Nat} {L : List Slot} {V : Nat → Value} {St : Addr → Value → Prop} (h : Owned W base L V St) (cs : List Value) (T : TypeId) : Owned (W.alloc (.cells cs.toArray T)) base L V (fun a v => St a v ∨ newSt W.heap.size cs a v) :=
 h.more ((Below.refl _ _).alloc (Nat.le_refl _) _) new_cells
theorem Desk.new {W : World} {base : Nat} {L : List Slot} {St : Addr → Value → Prop} (h : Desk W base L St) (cs : List Value) (T : TypeId) : Desk (W.alloc (.cells cs.toArray T)) base L (fun a v => St a v ∨ newSt W.heap.size cs a v) :=
 h.more ((Below.refl _ _).alloc (Nat.le_refl _) _) new_cells
theorem newSt_at {g j : Nat} {cs : List Value} {v : Value} (h : cs[j]? = some v) : newSt g cs ⟨g, j, none⟩ v := ⟨j, rfl, h⟩
theorem news_st {W : World} {base : Nat} {L : List Slot} {V : Nat → Value} {St : Addr → Value → Prop} {g : Nat} {cs : List Value} (h : Owned W base L V St) (hs : ∀ a v, newSt g cs a v → St a v) : ∀ j u, cs[j]? = some u → W.cell? ((⟨g, 0, none⟩ : Addr).add j) = some u := by
 intro j u hj
 rw [addr_add, Nat.zero_add]
 exact (h.st _ _ (hs _ _ (newSt_at hj))).2.1

theorem set_get' {L : List Slot} {i : Nat} {s s' : Slot} (hi : L[i]? = some s) (ha : s'.a = s.a) {j : Nat} {t : Slot} (h : L[j]? = some t) : ∃ t0, (L.set i s')[j]? = some t0 ∧ t0.a = t.a := by
 by_cases he : j = i
 ·subst he
  rw [hi] at h
  injection h with h
  subst h
  exact ⟨s', by rw [List.getElem?_set_self (List.getElem?_eq_some_iff.1 hi).1], ha⟩
 ·exact ⟨t, by rw [List.getElem?_set_ne (fun e => he e.symm)]; exact h, rfl⟩
theorem box_cells {W' : World} {base rb : Nat} {r : Rect} {L' : List Slot} {V' : Nat → Value} {St' : Addr → Value → Prop} (h : Owned W' base L' V' St') (hs : ∀ a v, newSt rb (cellsR r) a v → St' a v) : W'.cell? ⟨rb, 0, none⟩ = some (.int .i64 r.x1) ∧ W'.cell? ⟨rb, 1, none⟩ = some (.int .i64 r.y1) ∧ W'.cell? ⟨rb, 2, none⟩ = some (.int .i64 r.x2) ∧ W'.cell? ⟨rb, 3, none⟩ = some (.int .i64 r.y2) :=
 ⟨(h.st _ _ (hs _ _ (newSt_at rfl))).2.1, (h.st _ _ (hs _ _ (newSt_at rfl))).2.1, (h.st _ _ (hs _ _ (newSt_at rfl))).2.1, (h.st _ _ (hs _ _ (newSt_at rfl))).2.1⟩

set_option maxRecDepth 100000 in
set_option maxHeartbeats 8000000 in
theorem add_any (x base : Nat) (L : List Slot) (i : Nat) (s : BS) (St : Addr → Value → Prop) (r : Rect) (w : World) (hD : Desk w base L St) (hA : AtB L i ⟨x, 11, none⟩ ⟨x, 12, none⟩ s) (hl : s.cuts.length ≤ 100000) (hl2 : s.rects.length = s.cuts.length) :
    Calls Tryz.prog 74 #[.pointer (some ⟨x, 0, none⟩), .agg #[.int .i64 r.x1, .int .i64 r.y1, .int .i64 r.x2, .int .i64 r.y2]] w fun e w' => e = .returned (.int .i64 s.cuts.length) ∧ Desk w' base (setB L i ⟨x, 11, none⟩ ⟨x, 12, none⟩ ⟨s.cuts ++ [wasteC], s.rects ++ [r]⟩) St ∧ Below base w w' := by
 obtain ⟨i0, hi0, hz0, hz1, hz2⟩ := info_parts cut_info
 obtain ⟨j0, hj0, hy0, hy1, hy2⟩ := info_parts rect_info
 have hsz := hD.size hA
 have hbox := hD.new (cellsR r) 41
 have hAS := hA.set ⟨s.cuts ++ [wasteC], s.rects ++ [r]⟩
 go_enter Tryz.func74, Tryz.ntmps74
 go_upto_region 1 with fail
 refine gen_world (fun W => Desk W base L (fun a v => St a v ∨ newSt w.heap.size (cellsR r) a v) ∧ Below base w W) ?_ ?_
 ·exact ⟨hbox, (Below.refl _ _).alloc hsz.1 _⟩
 rintro W ⟨hD1, hbW⟩
 clear hD hbox
 obtain ⟨rb, hrb⟩ : ∃ rb, rb = w.heap.size := ⟨_, rfl⟩
 rw [← hrb] at hD1 ⊢
 clear hrb
 obtain ⟨V, hO, hV⟩ := hD1.ex
 have kc : ∀ y : KW (fun W => W.cell? ⟨x, 11, none⟩ = some (V i)), y.w.cell? ⟨x, 11, none⟩ = some (V i) := fun y => y.ok
 have kr : ∀ y : KW (fun W => W.cell? ⟨x, 12, none⟩ = some (V (i + 1))), y.w.cell? ⟨x, 12, none⟩ = some (V (i + 1)) := fun y => y.ok
 have kb : ∀ y : KW (fun W => W.cell? ⟨rb, 0, none⟩ = some (.int .i64 r.x1) ∧ W.cell? ⟨rb, 1, none⟩ = some (.int .i64 r.y1) ∧ W.cell? ⟨rb, 2, none⟩ = some (.int .i64 r.x2) ∧ W.cell? ⟨rb, 3, none⟩ = some (.int .i64 r.y2)),
     y.w.cell? ⟨rb, 0, none⟩ = some (.int .i64 r.x1) ∧ y.w.cell? ⟨rb, 1, none⟩ = some (.int .i64 r.y1) ∧ y.w.cell? ⟨rb, 2, none⟩ = some (.int .i64 r.x2) ∧ y.w.cell? ⟨rb, 3, none⟩ = some (.int .i64 r.y2) := fun y => y.ok
 refine wp_cut_slots [5, 6, 7, 8, 9, 10, 11, 12, 13, 14, 15, 16, 17, 18, 19, 20, 21, 22, 23, 24] (fun u W2 => Desk W2 base (setB L i ⟨x, 11, none⟩ ⟨x, 12, none⟩ ⟨s.cuts ++ [wasteC], s.rects ++ [r]⟩) St ∧ Below base w W2) ?_ ?_
 ·haveI n1 : Nonempty (KW (fun W => W.cell? ⟨x, 11, none⟩ = some (V i))) := ⟨⟨W, hV i _ _ hA.c rfl⟩⟩
  haveI n2 : Nonempty (KW (fun W => W.cell? ⟨x, 12, none⟩ = some (V (i + 1)))) := ⟨⟨W, hV (i + 1) _ _ hA.r rfl⟩⟩
  haveI n3 : Nonempty (KW (fun W => W.cell? ⟨rb, 0, none⟩ = some (.int .i64 r.x1) ∧ W.cell? ⟨rb, 1, none⟩ = some (.int .i64 r.y1) ∧ W.cell? ⟨rb, 2, none⟩ = some (.int .i64 r.x2) ∧ W.cell? ⟨rb, 3, none⟩ = some (.int .i64 r.y2))) := ⟨⟨W, box_cells hO (fun a v h => .inr h)⟩⟩
  refine wp_region_odr [(5, fun w' => ∃ y : KW (fun W => W.cell? ⟨x, 11, none⟩ = some (V i)), w' = y.w), (12, fun w' => ∃ y : KW (fun W => W.cell? ⟨x, 12, none⟩ = some (V (i + 1))), w' = y.w), (13, fun w' => ∃ y : KW (fun W => W.cell? ⟨rb, 0, none⟩ = some (.int .i64 r.x1) ∧ W.cell? ⟨rb, 1, none⟩ = some (.int .i64 r.y1) ∧ W.cell? ⟨rb, 2, none⟩ = some (.int .i64 r.x2) ∧ W.cell? ⟨rb, 3, none⟩ = some (.int .i64 r.y2)), w' = y.w)] [5, 12, 13] 19
   (.take 0 (.take 1 (.take 2 (.take 3 (.take 4 (.take 5 (.take 6 (.take 9 (.take 10 (.take 11 (.take 12 (.take 13 (.two 7 [5, 12, 13] (.two 8 [12, 13] (.one 14 [5, 12] (.one 15 [5, 13] (.take 16 (.take 17 (.one 18 [13] .done))))) 14 [5, 12] (.one 8 [12, 13] (.one 15 [5, 13] (.take 16 (.take 17 (.one 18 [13] .done)))))) 14 [5, 12] (.one 7 [5, 12, 13] (.one 8 [12, 13] (.one 15 [5, 13] (.take 16 (.take 17 (.one 18 [13] .done))))))))))))))))))) rfl (by kernel_rfl) (by kernel_rfl) ?_
  have hO0 := hO.keep (w' := W.drew) (Below.refl _ _).drew
  have hV0 : ∀ (j : Nat) (t : Slot) (a : Addr), L[j]? = some t → t.a = some a → W.drew.cell? a = some (V j) := hV
  have hb0 := hbW.drew
  generalize W.drew = W0 at *
  clear hO hV hbW hD1
  have hc := hV0 i _ _ hA.c rfl
  have hr := hV0 (i + 1) _ _ hA.r rfl
  have hB := box_cells hO0 (fun a v h => .inr h)
  repeat (refine wpOdr_take (by first | exact trivial | exact KW.mk' hc | exact KW.mk' hr | exact KW.mk' hB) ?_; simp only [nthOp]; (first | go_big_quiet_step (fail) | quiet_step (fail)); refine wpQuiet_nil ?_)
  refine wpOdr_two ?_ ?_
  ·simp only [nthOp]
   go_wp2_with fail
   obtain ⟨gc, hgc⟩ : ∃ g, g = W0.heap.size := ⟨_, rfl⟩
   rw [← hgc]
   have hO1 := hO0.new (cellsC wasteC) 86
   rw [← hgc] at hO1
   refine gen_any (G := fun W' => One _ _ _ _ W') (fun W' => Owned W' base L V (fun a v => (fun a v => St a v ∨ newSt rb (cellsR r) a v) a v ∨ newSt gc (cellsC wasteC) a v) ∧ (∀ (j : Nat) (t : Slot) (a : Addr), L[j]? = some t → t.a = some a → W'.cell? a = some (V j)) ∧ Below base w W') ⟨hO1, fun j t a h h' => cell_keep ((Below.refl _ _).alloc (Nat.le_refl _) _) (hV0 j t a h h'), hb0.alloc (Nat.le_trans hsz.1 hb0.size) _⟩ ?_
   clear hO1 hgc
   rintro W1 ⟨hO1, hV1, hb1⟩
   clear hc hr hB
   have hc := hV1 i _ _ hA.c rfl
   have hr := hV1 (i + 1) _ _ hA.r rfl
   have hB := box_cells hO1 (fun a v h => .inl (.inr h))
   refine One_odr (by repeat (first | exact Obl.nil | (refine Obl.out rfl ?_) | (refine Obl.in (KW.mk' hc) ?_) | (refine Obl.in (KW.mk' hr) ?_) | (refine Obl.in (KW.mk' hB) ?_))) ?_
   refine wpOdr_two ?_ ?_
   ·simp only [nthOp]
    have hbz : base ≤ W1.heap.size := Nat.le_trans hsz.1 hb1.size
    have hown := hO1.own i _ hA.c
    have hnewC := news_st (g := gc) (cs := cellsC wasteC) hO1 (fun a v h => .inr h)
    go_wp2_with (at_builtin; refine wpList_append_here _ rfl _ _ 53 rfl base 86 i0 (.agg #[.bool false, .int .i64 0, .int .i64 0, .int .i64 0, .int .i64 0]) 5 40 Tryz.underlying53 hi0 hz0 hz1 hz2 rfl (by decide) _ s.cuts.length _ rfl (own_len' cellsC_len (by decide) hown.choose_spec) ⟨gc, 0, none⟩ 1 1 (cellsC wasteC) rfl rfl hnewC (cellsC_one _) (by decide) (by simp only [maxLen]; omega) (by omega) hbz ?_; intro vc wC ho3 hg3 hv3; have HO3 := Lib.hid ho3; have HG3 := Lib.hid hg3; have HV3 := Lib.hid hv3; clear ho3 hg3 hv3)
    have hA1 := hO1.append hA.c HO3.out HG3.out HV3.out
    have hV2 : (∀ (j : Nat) (t : Slot) (a : Addr), L[j]? = some t → t.a = some a → wC.cell? a = some (V j)) := fun j t a h h' => by
     obtain ⟨t0, h0, h1⟩ : ∃ t0, L[j]? = some t0 ∧ t0.a = t.a := ⟨t, h, rfl⟩
     rw [hA1.2 j t0 a h0 (by rw [h1]; exact h')]; exact hV1 j t a h h'
    have hO2 := hA1.1
    have hb2 : Below base w wC := hb1.grown HG3.out hbz (fun q hq => (hO1.lt hA.c q (by exact hq)).1)
    clear hA1 HO3 HG3 HV3 hown hbz hnewC
    clear hc hr hB
    have hc := hV2 i _ _ hA.c rfl
    have hr := hV2 (i + 1) _ _ hA.r rfl
    have hB := box_cells hO2 (fun a v h => .inl (.inr h))
    refine One_odr (by repeat (first | exact Obl.nil | (refine Obl.out rfl ?_) | (refine Obl.in (KW.mk' hc) ?_) | (refine Obl.in (KW.mk' hr) ?_) | (refine Obl.in (KW.mk' hB) ?_))) ?_
    refine wpOdr_one ?_
    simp only [nthOp]
    go_wp2_with fail
    obtain ⟨gr, hgr⟩ : ∃ g, g = wC.heap.size := ⟨_, rfl⟩
    rw [← hgr]
    have hO3 := hO2.new (cellsR r) 41
    rw [← hgr] at hO3
    refine gen_any (G := fun W' => One _ _ _ _ W') (fun W' => Owned W' base (L.set i { slotC ⟨x, 11, none⟩ s.cuts with xs := (slotC ⟨x, 11, none⟩ s.cuts).xs ++ cellsC wasteC }) (upd V i vc) (fun a v => (fun a v => (fun a v => St a v ∨ newSt rb (cellsR r) a v) a v ∨ newSt gc (cellsC wasteC) a v) a v ∨ newSt gr (cellsR r) a v) ∧ (∀ (j : Nat) (t : Slot) (a : Addr), L[j]? = some t → t.a = some a → W'.cell? a = some (V j)) ∧ Below base w W') ⟨hO3, fun j t a h h' => cell_keep ((Below.refl _ _).alloc (Nat.le_refl _) _) (hV2 j t a h h'), hb2.alloc (Nat.le_trans hsz.1 hb2.size) _⟩ ?_
    clear hO3 hgr
    rintro W3 ⟨hO3, hV3, hb3⟩
    clear hc hr hB
    have hc := hV3 i _ _ hA.c rfl
    have hr := hV3 (i + 1) _ _ hA.r rfl
    have hB := box_cells hO3 (fun a v h => .inl (.inl (.inr h)))
    refine One_odr (by repeat (first | exact Obl.nil | (refine Obl.out rfl ?_) | (refine Obl.in (KW.mk' hc) ?_) | (refine Obl.in (KW.mk' hr) ?_) | (refine Obl.in (KW.mk' hB) ?_))) ?_
    refine wpOdr_one ?_
    simp only [nthOp]
    have hbz : base ≤ W3.heap.size := Nat.le_trans hsz.1 hb3.size
    have hr2 : (L.set i { slotC ⟨x, 11, none⟩ s.cuts with xs := (slotC ⟨x, 11, none⟩ s.cuts).xs ++ cellsC wasteC })[i + 1]? = some (slotR ⟨x, 12, none⟩ s.rects) := by rw [List.getElem?_set_ne (by omega)]; exact hA.r
    have hown := hO3.own (i + 1) _ hr2
    rw [upd_ne _ _ (by omega)] at hown
    have hnewR := news_st (g := gr) (cs := cellsR r) hO3 (fun a v h => .inr h)
    go_wp2_with (at_builtin; refine wpList_append_here _ rfl _ _ 50 rfl base 41 j0 (.agg #[.int .i64 0, .int .i64 0, .int .i64 0, .int .i64 0]) 4 32 Tryz.underlying50 hj0 hy0 hy1 hy2 rfl (by decide) _ s.rects.length _ rfl (own_len' cellsR_len (by decide) hown.choose_spec) ⟨gr, 0, none⟩ 1 1 (cellsR r) rfl rfl hnewR (cellsR_one _) (by decide) (by simp only [maxLen]; omega) (by omega) hbz ?_; intro vr wR ho3 hg3 hv3; have HO3 := Lib.hid ho3; have HG3 := Lib.hid hg3; have HV3 := Lib.hid hv3; clear ho3 hg3 hv3)
    have hA3 := hO3.append hr2 HO3.out (by rw [upd_ne _ _ (by omega)]; exact HG3.out) (by rw [upd_ne _ _ (by omega)]; exact HV3.out)
    have hV4 : (∀ (j : Nat) (t : Slot) (a : Addr), L[j]? = some t → t.a = some a → wR.cell? a = some (V j)) := fun j t a h h' => by
     obtain ⟨t0, h0, h1⟩ : ∃ t0, (L.set i { slotC ⟨x, 11, none⟩ s.cuts with xs := (slotC ⟨x, 11, none⟩ s.cuts).xs ++ cellsC wasteC })[j]? = some t0 ∧ t0.a = t.a := set_get' (s' := { slotC ⟨x, 11, none⟩ s.cuts with xs := (slotC ⟨x, 11, none⟩ s.cuts).xs ++ cellsC wasteC }) hA.c rfl h
     rw [hA3.2 j t0 a h0 (by rw [h1]; exact h')]; exact hV3 j t a h h'
    have hO4 := hA3.1
    have hb4 : Below base w wR := hb3.grown HG3.out hbz (fun q hq => (hO3.lt hr2 q (by rw [upd_ne _ _ (by omega)]; exact hq)).1)
    clear hA3 HO3 HG3 HV3 hown hbz hnewR
    clear hc hr hB
    have hc := hV4 i _ _ hA.c rfl
    have hr := hV4 (i + 1) _ _ hA.r rfl
    have hB := box_cells hO4 (fun a v h => .inl (.inl (.inr h)))
    refine One_odr (by repeat (first | exact Obl.nil | (refine Obl.out rfl ?_) | (refine Obl.in (KW.mk' hc) ?_) | (refine Obl.in (KW.mk' hr) ?_) | (refine Obl.in (KW.mk' hB) ?_))) ?_
    repeat (refine wpOdr_take (by first | exact trivial | exact KW.mk' hc | exact KW.mk' hr | exact KW.mk' hB) ?_; simp only [nthOp]; (first | go_big_quiet_step (fail) | quiet_step (fail)); refine wpQuiet_nil ?_)
    have hAA : AtB (((L.set i { slotC ⟨x, 11, none⟩ s.cuts with xs := (slotC ⟨x, 11, none⟩ s.cuts).xs ++ cellsC wasteC }).set (i + 1) { slotR ⟨x, 12, none⟩ s.rects with xs := (slotR ⟨x, 12, none⟩ s.rects).xs ++ cellsR r })) i ⟨x, 11, none⟩ ⟨x, 12, none⟩ ⟨s.cuts ++ [wasteC], s.rects ++ [r]⟩ := by
     have e1 := slotC_app ⟨x, 11, none⟩ s.cuts [wasteC]
     have e2 := slotR_app ⟨x, 12, none⟩ s.rects [r]
     simp only [List.flatMap_cons, List.flatMap_nil, List.append_nil] at e1 e2
     rw [e1, e2]
     exact hAS
    have hLL : ((L.set i { slotC ⟨x, 11, none⟩ s.cuts with xs := (slotC ⟨x, 11, none⟩ s.cuts).xs ++ cellsC wasteC }).set (i + 1) { slotR ⟨x, 12, none⟩ s.rects with xs := (slotR ⟨x, 12, none⟩ s.rects).xs ++ cellsR r }) = setB L i ⟨x, 11, none⟩ ⟨x, 12, none⟩ ⟨s.cuts ++ [wasteC], s.rects ++ [r]⟩ := by
     have e1 := slotC_app ⟨x, 11, none⟩ s.cuts [wasteC]
     have e2 := slotR_app ⟨x, 12, none⟩ s.rects [r]
     simp only [List.flatMap_cons, List.flatMap_nil, List.append_nil] at e1 e2
     rw [e1, e2]; rfl
    rw [hLL] at hO4
    clear hAA hLL
    obtain ⟨n1, q1⟩ := hO4.own i _ hAS.c
    rw [upd_ne _ _ (by omega : i ≠ i + 1), upd_same] at q1
    obtain ⟨g1, cap1, hvc, -⟩ := own_cells cellsC_len q1 (by simp) (by decide)
    obtain ⟨n2, q2⟩ := hO4.own (i + 1) _ hAS.r
    rw [upd_same] at q2
    obtain ⟨g2, cap2, hvr, -⟩ := own_cells cellsR_len q2 (by simp) (by decide)
    clear q1 q2
    subst hvc hvr
    refine wpOdr_one ?_
    simp only [nthOp]
    have hfc := (hO4.slot i _ _ hAS.c rfl).2.2.1
    have hfr := (hO4.slot (i + 1) _ _ hAS.r rfl).2.2.1
    have hB1 := Lib.hid (box_cells (hO4.store hAS.c rfl (.slice (some ⟨g1, 0, none⟩) n1 cap1)).1 (fun a v h => .inl (.inl (.inr h))))
    have hd := desk_stored (W := wR) (V := V) hA hO4 (fun j t a hj ha hj1 hj2 => by rw [upd_ne _ _ hj2, upd_ne _ _ hj1]; exact hV4 j t a hj ha)
    rw [upd_same, upd_ne _ _ (by omega : i ≠ i + 1), upd_same] at hd
    have HD := Lib.hid (hd.weak (St' := St) (fun a v h => .inl (.inl (.inl h))))
    have HBE := Lib.hid ((hb4.setCell (p := ⟨x, 11, none⟩) (by simpa using hsz.2.1) (.slice (some ⟨g1, 0, none⟩) n1 cap1)).setCell (p := ⟨x, 12, none⟩) (by simpa using hsz.2.1) (.slice (some ⟨g2, 0, none⟩) n2 cap2))
    clear hd hO4 hV4 hb4
    go_wp2_with fail
    clear hB
    have hB := hB1.out
    refine One_odr (by repeat (first | exact Obl.nil | (refine Obl.out rfl ?_) | (refine Obl.in (KW.mk' hc) ?_) | (refine Obl.in (KW.mk' hr) ?_) | (refine Obl.in (KW.mk' hB) ?_))) (wpOdr_done ?_)
    simp only [List.drop_succ_cons, List.drop_zero]
    clear hB hB1
    go_wp2_with fail
    refine NP_mk ?_
    exact cut_meet (by simp [forget]) ⟨HD.out, HBE.out⟩
   ·simp only [nthOp]
    go_wp2_with fail
    obtain ⟨gr, hgr⟩ : ∃ g, g = W1.heap.size := ⟨_, rfl⟩
    rw [← hgr]
    have hO2 := hO1.new (cellsR r) 41
    rw [← hgr] at hO2
    refine gen_any (G := fun W' => One _ _ _ _ W') (fun W' => Owned W' base L V (fun a v => (fun a v => (fun a v => St a v ∨ newSt rb (cellsR r) a v) a v ∨ newSt gc (cellsC wasteC) a v) a v ∨ newSt gr (cellsR r) a v) ∧ (∀ (j : Nat) (t : Slot) (a : Addr), L[j]? = some t → t.a = some a → W'.cell? a = some (V j)) ∧ Below base w W') ⟨hO2, fun j t a h h' => cell_keep ((Below.refl _ _).alloc (Nat.le_refl _) _) (hV1 j t a h h'), hb1.alloc (Nat.le_trans hsz.1 hb1.size) _⟩ ?_
    clear hO2 hgr
    rintro W2 ⟨hO2, hV2, hb2⟩
    clear hc hr hB
    have hc := hV2 i _ _ hA.c rfl
    have hr := hV2 (i + 1) _ _ hA.r rfl
    have hB := box_cells hO2 (fun a v h => .inl (.inl (.inr h)))
    refine One_odr (by repeat (first | exact Obl.nil | (refine Obl.out rfl ?_) | (refine Obl.in (KW.mk' hc) ?_) | (refine Obl.in (KW.mk' hr) ?_) | (refine Obl.in (KW.mk' hB) ?_))) ?_
    refine wpOdr_one ?_
    simp only [nthOp]
    have hbz : base ≤ W2.heap.size := Nat.le_trans hsz.1 hb2.size
    have hown := hO2.own i _ hA.c
    have hnewC := news_st (g := gc) (cs := cellsC wasteC) hO2 (fun a v h => .inl (.inr h))
    go_wp2_with (at_builtin; refine wpList_append_here _ rfl _ _ 53 rfl base 86 i0 (.agg #[.bool false, .int .i64 0, .int .i64 0, .int .i64 0, .int .i64 0]) 5 40 Tryz.underlying53 hi0 hz0 hz1 hz2 rfl (by decide) _ s.cuts.length _ rfl (own_len' cellsC_len (by decide) hown.choose_spec) ⟨gc, 0, none⟩ 1 1 (cellsC wasteC) rfl rfl hnewC (cellsC_one _) (by decide) (by simp only [maxLen]; omega) (by omega) hbz ?_; intro vc wC ho3 hg3 hv3; have HO3 := Lib.hid ho3; have HG3 := Lib.hid hg3; have HV3 := Lib.hid hv3; clear ho3 hg3 hv3)
    have hA2 := hO2.append hA.c HO3.out HG3.out HV3.out
    have hV3 : (∀ (j : Nat) (t : Slot) (a : Addr), L[j]? = some t → t.a = some a → wC.cell? a = some (V j)) := fun j t a h h' => by
     obtain ⟨t0, h0, h1⟩ : ∃ t0, L[j]? = some t0 ∧ t0.a = t.a := ⟨t, h, rfl⟩
     rw [hA2.2 j t0 a h0 (by rw [h1]; exact h')]; exact hV2 j t a h h'
    have hO3 := hA2.1
    have hb3 : Below base w wC := hb2.grown HG3.out hbz (fun q hq => (hO2.lt hA.c q (by exact hq)).1)
    clear hA2 HO3 HG3 HV3 hown hbz hnewC
    clear hc hr hB
    have hc := hV3 i _ _ hA.c rfl
    have hr := hV3 (i + 1) _ _ hA.r rfl
    have hB := box_cells hO3 (fun a v h => .inl (.inl (.inr h)))
    refine One_odr (by repeat (first | exact Obl.nil | (refine Obl.out rfl ?_) | (refine Obl.in (KW.mk' hc) ?_) | (refine Obl.in (KW.mk' hr) ?_) | (refine Obl.in (KW.mk' hB) ?_))) ?_
    refine wpOdr_one ?_
    simp only [nthOp]
    have hbz : base ≤ wC.heap.size := Nat.le_trans hsz.1 hb3.size
    have hr2 : (L.set i { slotC ⟨x, 11, none⟩ s.cuts with xs := (slotC ⟨x, 11, none⟩ s.cuts).xs ++ cellsC wasteC })[i + 1]? = some (slotR ⟨x, 12, none⟩ s.rects) := by rw [List.getElem?_set_ne (by omega)]; exact hA.r
    have hown := hO3.own (i + 1) _ hr2
    rw [upd_ne _ _ (by omega)] at hown
    have hnewR := news_st (g := gr) (cs := cellsR r) hO3 (fun a v h => .inr h)
    go_wp2_with (at_builtin; refine wpList_append_here _ rfl _ _ 50 rfl base 41 j0 (.agg #[.int .i64 0, .int .i64 0, .int .i64 0, .int .i64 0]) 4 32 Tryz.underlying50 hj0 hy0 hy1 hy2 rfl (by decide) _ s.rects.length _ rfl (own_len' cellsR_len (by decide) hown.choose_spec) ⟨gr, 0, none⟩ 1 1 (cellsR r) rfl rfl hnewR (cellsR_one _) (by decide) (by simp only [maxLen]; omega) (by omega) hbz ?_; intro vr wR ho3 hg3 hv3; have HO3 := Lib.hid ho3; have HG3 := Lib.hid hg3; have HV3 := Lib.hid hv3; clear ho3 hg3 hv3)
    have hA3 := hO3.append hr2 HO3.out (by rw [upd_ne _ _ (by omega)]; exact HG3.out) (by rw [upd_ne _ _ (by omega)]; exact HV3.out)
    have hV4 : (∀ (j : Nat) (t : Slot) (a : Addr), L[j]? = some t → t.a = some a → wR.cell? a = some (V j)) := fun j t a h h' => by
     obtain ⟨t0, h0, h1⟩ : ∃ t0, (L.set i { slotC ⟨x, 11, none⟩ s.cuts with xs := (slotC ⟨x, 11, none⟩ s.cuts).xs ++ cellsC wasteC })[j]? = some t0 ∧ t0.a = t.a := set_get' (s' := { slotC ⟨x, 11, none⟩ s.cuts with xs := (slotC ⟨x, 11, none⟩ s.cuts).xs ++ cellsC wasteC }) hA.c rfl h
     rw [hA3.2 j t0 a h0 (by rw [h1]; exact h')]; exact hV3 j t a h h'
    have hO4 := hA3.1
    have hb4 : Below base w wR := hb3.grown HG3.out hbz (fun q hq => (hO3.lt hr2 q (by rw [upd_ne _ _ (by omega)]; exact hq)).1)
    clear hA3 HO3 HG3 HV3 hown hbz hnewR
    clear hc hr hB
    have hc := hV4 i _ _ hA.c rfl
    have hr := hV4 (i + 1) _ _ hA.r rfl
    have hB := box_cells hO4 (fun a v h => .inl (.inl (.inr h)))
    refine One_odr (by repeat (first | exact Obl.nil | (refine Obl.out rfl ?_) | (refine Obl.in (KW.mk' hc) ?_) | (refine Obl.in (KW.mk' hr) ?_) | (refine Obl.in (KW.mk' hB) ?_))) ?_
    repeat (refine wpOdr_take (by first | exact trivial | exact KW.mk' hc | exact KW.mk' hr | exact KW.mk' hB) ?_; simp only [nthOp]; (first | go_big_quiet_step (fail) | quiet_step (fail)); refine wpQuiet_nil ?_)
    have hAA : AtB (((L.set i { slotC ⟨x, 11, none⟩ s.cuts with xs := (slotC ⟨x, 11, none⟩ s.cuts).xs ++ cellsC wasteC }).set (i + 1) { slotR ⟨x, 12, none⟩ s.rects with xs := (slotR ⟨x, 12, none⟩ s.rects).xs ++ cellsR r })) i ⟨x, 11, none⟩ ⟨x, 12, none⟩ ⟨s.cuts ++ [wasteC], s.rects ++ [r]⟩ := by
     have e1 := slotC_app ⟨x, 11, none⟩ s.cuts [wasteC]
     have e2 := slotR_app ⟨x, 12, none⟩ s.rects [r]
     simp only [List.flatMap_cons, List.flatMap_nil, List.append_nil] at e1 e2
     rw [e1, e2]
     exact hAS
    have hLL : ((L.set i { slotC ⟨x, 11, none⟩ s.cuts with xs := (slotC ⟨x, 11, none⟩ s.cuts).xs ++ cellsC wasteC }).set (i + 1) { slotR ⟨x, 12, none⟩ s.rects with xs := (slotR ⟨x, 12, none⟩ s.rects).xs ++ cellsR r }) = setB L i ⟨x, 11, none⟩ ⟨x, 12, none⟩ ⟨s.cuts ++ [wasteC], s.rects ++ [r]⟩ := by
     have e1 := slotC_app ⟨x, 11, none⟩ s.cuts [wasteC]
     have e2 := slotR_app ⟨x, 12, none⟩ s.rects [r]
     simp only [List.flatMap_cons, List.flatMap_nil, List.append_nil] at e1 e2
     rw [e1, e2]; rfl
    rw [hLL] at hO4
    clear hAA hLL
    obtain ⟨n1, q1⟩ := hO4.own i _ hAS.c
    rw [upd_ne _ _ (by omega : i ≠ i + 1), upd_same] at q1
    obtain ⟨g1, cap1, hvc, -⟩ := own_cells cellsC_len q1 (by simp) (by decide)
    obtain ⟨n2, q2⟩ := hO4.own (i + 1) _ hAS.r
    rw [upd_same] at q2
    obtain ⟨g2, cap2, hvr, -⟩ := own_cells cellsR_len q2 (by simp) (by decide)
    clear q1 q2
    subst hvc hvr
    refine wpOdr_one ?_
    simp only [nthOp]
    have hfc := (hO4.slot i _ _ hAS.c rfl).2.2.1
    have hfr := (hO4.slot (i + 1) _ _ hAS.r rfl).2.2.1
    have hB1 := Lib.hid (box_cells (hO4.store hAS.c rfl (.slice (some ⟨g1, 0, none⟩) n1 cap1)).1 (fun a v h => .inl (.inl (.inr h))))
    have hd := desk_stored (W := wR) (V := V) hA hO4 (fun j t a hj ha hj1 hj2 => by rw [upd_ne _ _ hj2, upd_ne _ _ hj1]; exact hV4 j t a hj ha)
    rw [upd_same, upd_ne _ _ (by omega : i ≠ i + 1), upd_same] at hd
    have HD := Lib.hid (hd.weak (St' := St) (fun a v h => .inl (.inl (.inl h))))
    have HBE := Lib.hid ((hb4.setCell (p := ⟨x, 11, none⟩) (by simpa using hsz.2.1) (.slice (some ⟨g1, 0, none⟩) n1 cap1)).setCell (p := ⟨x, 12, none⟩) (by simpa using hsz.2.1) (.slice (some ⟨g2, 0, none⟩) n2 cap2))
    clear hd hO4 hV4 hb4
    go_wp2_with fail
    clear hB
    have hB := hB1.out
    refine One_odr (by repeat (first | exact Obl.nil | (refine Obl.out rfl ?_) | (refine Obl.in (KW.mk' hc) ?_) | (refine Obl.in (KW.mk' hr) ?_) | (refine Obl.in (KW.mk' hB) ?_))) (wpOdr_done ?_)
    simp only [List.drop_succ_cons, List.drop_zero]
    clear hB hB1
    go_wp2_with fail
    refine NP_mk ?_
    exact cut_meet (by simp [forget]) ⟨HD.out, HBE.out⟩
  ·simp only [nthOp]
   go_wp2_with fail
   obtain ⟨gr, hgr⟩ : ∃ g, g = W0.heap.size := ⟨_, rfl⟩
   rw [← hgr]
   have hO1 := hO0.new (cellsR r) 41
   rw [← hgr] at hO1
   refine gen_any (G := fun W' => One _ _ _ _ W') (fun W' => Owned W' base L V (fun a v => (fun a v => St a v ∨ newSt rb (cellsR r) a v) a v ∨ newSt gr (cellsR r) a v) ∧ (∀ (j : Nat) (t : Slot) (a : Addr), L[j]? = some t → t.a = some a → W'.cell? a = some (V j)) ∧ Below base w W') ⟨hO1, fun j t a h h' => cell_keep ((Below.refl _ _).alloc (Nat.le_refl _) _) (hV0 j t a h h'), hb0.alloc (Nat.le_trans hsz.1 hb0.size) _⟩ ?_
   clear hO1 hgr
   rintro W1 ⟨hO1, hV1, hb1⟩
   clear hc hr hB
   have hc := hV1 i _ _ hA.c rfl
   have hr := hV1 (i + 1) _ _ hA.r rfl
   have hB := box_cells hO1 (fun a v h => .inl (.inr h))
   refine One_odr (by repeat (first | exact Obl.nil | (refine Obl.out rfl ?_) | (refine Obl.in (KW.mk' hc) ?_) | (refine Obl.in (KW.mk' hr) ?_) | (refine Obl.in (KW.mk' hB) ?_))) ?_
   refine wpOdr_one ?_
   simp only [nthOp]
   go_wp2_with fail
   obtain ⟨gc, hgc⟩ : ∃ g, g = W1.heap.size := ⟨_, rfl⟩
   rw [← hgc]
   have hO2 := hO1.new (cellsC wasteC) 86
   rw [← hgc] at hO2
   refine gen_any (G := fun W' => One _ _ _ _ W') (fun W' => Owned W' base L V (fun a v => (fun a v => (fun a v => St a v ∨ newSt rb (cellsR r) a v) a v ∨ newSt gr (cellsR r) a v) a v ∨ newSt gc (cellsC wasteC) a v) ∧ (∀ (j : Nat) (t : Slot) (a : Addr), L[j]? = some t → t.a = some a → W'.cell? a = some (V j)) ∧ Below base w W') ⟨hO2, fun j t a h h' => cell_keep ((Below.refl _ _).alloc (Nat.le_refl _) _) (hV1 j t a h h'), hb1.alloc (Nat.le_trans hsz.1 hb1.size) _⟩ ?_
   clear hO2 hgc
   rintro W2 ⟨hO2, hV2, hb2⟩
   clear hc hr hB
   have hc := hV2 i _ _ hA.c rfl
   have hr := hV2 (i + 1) _ _ hA.r rfl
   have hB := box_cells hO2 (fun a v h => .inl (.inl (.inr h)))
   refine One_odr (by repeat (first | exact Obl.nil | (refine Obl.out rfl ?_) | (refine Obl.in (KW.mk' hc) ?_) | (refine Obl.in (KW.mk' hr) ?_) | (refine Obl.in (KW.mk' hB) ?_))) ?_
   refine wpOdr_one ?_
   simp only [nthOp]
   have hbz : base ≤ W2.heap.size := Nat.le_trans hsz.1 hb2.size
   have hown := hO2.own i _ hA.c
   have hnewC := news_st (g := gc) (cs := cellsC wasteC) hO2 (fun a v h => .inr h)
   go_wp2_with (at_builtin; refine wpList_append_here _ rfl _ _ 53 rfl base 86 i0 (.agg #[.bool false, .int .i64 0, .int .i64 0, .int .i64 0, .int .i64 0]) 5 40 Tryz.underlying53 hi0 hz0 hz1 hz2 rfl (by decide) _ s.cuts.length _ rfl (own_len' cellsC_len (by decide) hown.choose_spec) ⟨gc, 0, none⟩ 1 1 (cellsC wasteC) rfl rfl hnewC (cellsC_one _) (by decide) (by simp only [maxLen]; omega) (by omega) hbz ?_; intro vc wC ho3 hg3 hv3; have HO3 := Lib.hid ho3; have HG3 := Lib.hid hg3; have HV3 := Lib.hid hv3; clear ho3 hg3 hv3)
   have hA2 := hO2.append hA.c HO3.out HG3.out HV3.out
   have hV3 : (∀ (j : Nat) (t : Slot) (a : Addr), L[j]? = some t → t.a = some a → wC.cell? a = some (V j)) := fun j t a h h' => by
    obtain ⟨t0, h0, h1⟩ : ∃ t0, L[j]? = some t0 ∧ t0.a = t.a := ⟨t, h, rfl⟩
    rw [hA2.2 j t0 a h0 (by rw [h1]; exact h')]; exact hV2 j t a h h'
   have hO3 := hA2.1
   have hb3 : Below base w wC := hb2.grown HG3.out hbz (fun q hq => (hO2.lt hA.c q (by exact hq)).1)
   clear hA2 HO3 HG3 HV3 hown hbz hnewC
   clear hc hr hB
   have hc := hV3 i _ _ hA.c rfl
   have hr := hV3 (i + 1) _ _ hA.r rfl
   have hB := box_cells hO3 (fun a v h => .inl (.inl (.inr h)))
   refine One_odr (by repeat (first | exact Obl.nil | (refine Obl.out rfl ?_) | (refine Obl.in (KW.mk' hc) ?_) | (refine Obl.in (KW.mk' hr) ?_) | (refine Obl.in (KW.mk' hB) ?_))) ?_
   refine wpOdr_one ?_
   simp only [nthOp]
   have hbz : base ≤ wC.heap.size := Nat.le_trans hsz.1 hb3.size
   have hr2 : (L.set i { slotC ⟨x, 11, none⟩ s.cuts with xs := (slotC ⟨x, 11, none⟩ s.cuts).xs ++ cellsC wasteC })[i + 1]? = some (slotR ⟨x, 12, none⟩ s.rects) := by rw [List.getElem?_set_ne (by omega)]; exact hA.r
   have hown := hO3.own (i + 1) _ hr2
   rw [upd_ne _ _ (by omega)] at hown
   have hnewR := news_st (g := gr) (cs := cellsR r) hO3 (fun a v h => .inl (.inr h))
   go_wp2_with (at_builtin; refine wpList_append_here _ rfl _ _ 50 rfl base 41 j0 (.agg #[.int .i64 0, .int .i64 0, .int .i64 0, .int .i64 0]) 4 32 Tryz.underlying50 hj0 hy0 hy1 hy2 rfl (by decide) _ s.rects.length _ rfl (own_len' cellsR_len (by decide) hown.choose_spec) ⟨gr, 0, none⟩ 1 1 (cellsR r) rfl rfl hnewR (cellsR_one _) (by decide) (by simp only [maxLen]; omega) (by omega) hbz ?_; intro vr wR ho3 hg3 hv3; have HO3 := Lib.hid ho3; have HG3 := Lib.hid hg3; have HV3 := Lib.hid hv3; clear ho3 hg3 hv3)
   have hA3 := hO3.append hr2 HO3.out (by rw [upd_ne _ _ (by omega)]; exact HG3.out) (by rw [upd_ne _ _ (by omega)]; exact HV3.out)
   have hV4 : (∀ (j : Nat) (t : Slot) (a : Addr), L[j]? = some t → t.a = some a → wR.cell? a = some (V j)) := fun j t a h h' => by
    obtain ⟨t0, h0, h1⟩ : ∃ t0, (L.set i { slotC ⟨x, 11, none⟩ s.cuts with xs := (slotC ⟨x, 11, none⟩ s.cuts).xs ++ cellsC wasteC })[j]? = some t0 ∧ t0.a = t.a := set_get' (s' := { slotC ⟨x, 11, none⟩ s.cuts with xs := (slotC ⟨x, 11, none⟩ s.cuts).xs ++ cellsC wasteC }) hA.c rfl h
    rw [hA3.2 j t0 a h0 (by rw [h1]; exact h')]; exact hV3 j t a h h'
   have hO4 := hA3.1
   have hb4 : Below base w wR := hb3.grown HG3.out hbz (fun q hq => (hO3.lt hr2 q (by rw [upd_ne _ _ (by omega)]; exact hq)).1)
   clear hA3 HO3 HG3 HV3 hown hbz hnewR
   clear hc hr hB
   have hc := hV4 i _ _ hA.c rfl
   have hr := hV4 (i + 1) _ _ hA.r rfl
   have hB := box_cells hO4 (fun a v h => .inl (.inl (.inr h)))
   refine One_odr (by repeat (first | exact Obl.nil | (refine Obl.out rfl ?_) | (refine Obl.in (KW.mk' hc) ?_) | (refine Obl.in (KW.mk' hr) ?_) | (refine Obl.in (KW.mk' hB) ?_))) ?_
   repeat (refine wpOdr_take (by first | exact trivial | exact KW.mk' hc | exact KW.mk' hr | exact KW.mk' hB) ?_; simp only [nthOp]; (first | go_big_quiet_step (fail) | quiet_step (fail)); refine wpQuiet_nil ?_)
   have hAA : AtB (((L.set i { slotC ⟨x, 11, none⟩ s.cuts with xs := (slotC ⟨x, 11, none⟩ s.cuts).xs ++ cellsC wasteC }).set (i + 1) { slotR ⟨x, 12, none⟩ s.rects with xs := (slotR ⟨x, 12, none⟩ s.rects).xs ++ cellsR r })) i ⟨x, 11, none⟩ ⟨x, 12, none⟩ ⟨s.cuts ++ [wasteC], s.rects ++ [r]⟩ := by
    have e1 := slotC_app ⟨x, 11, none⟩ s.cuts [wasteC]
    have e2 := slotR_app ⟨x, 12, none⟩ s.rects [r]
    simp only [List.flatMap_cons, List.flatMap_nil, List.append_nil] at e1 e2
    rw [e1, e2]
    exact hAS
   have hLL : ((L.set i { slotC ⟨x, 11, none⟩ s.cuts with xs := (slotC ⟨x, 11, none⟩ s.cuts).xs ++ cellsC wasteC }).set (i + 1) { slotR ⟨x, 12, none⟩ s.rects with xs := (slotR ⟨x, 12, none⟩ s.rects).xs ++ cellsR r }) = setB L i ⟨x, 11, none⟩ ⟨x, 12, none⟩ ⟨s.cuts ++ [wasteC], s.rects ++ [r]⟩ := by
    have e1 := slotC_app ⟨x, 11, none⟩ s.cuts [wasteC]
    have e2 := slotR_app ⟨x, 12, none⟩ s.rects [r]
    simp only [List.flatMap_cons, List.flatMap_nil, List.append_nil] at e1 e2
    rw [e1, e2]; rfl
   rw [hLL] at hO4
   clear hAA hLL
   obtain ⟨n1, q1⟩ := hO4.own i _ hAS.c
   rw [upd_ne _ _ (by omega : i ≠ i + 1), upd_same] at q1
   obtain ⟨g1, cap1, hvc, -⟩ := own_cells cellsC_len q1 (by simp) (by decide)
   obtain ⟨n2, q2⟩ := hO4.own (i + 1) _ hAS.r
   rw [upd_same] at q2
   obtain ⟨g2, cap2, hvr, -⟩ := own_cells cellsR_len q2 (by simp) (by decide)
   clear q1 q2
   subst hvc hvr
   refine wpOdr_one ?_
   simp only [nthOp]
   have hfc := (hO4.slot i _ _ hAS.c rfl).2.2.1
   have hfr := (hO4.slot (i + 1) _ _ hAS.r rfl).2.2.1
   have hB1 := Lib.hid (box_cells (hO4.store hAS.c rfl (.slice (some ⟨g1, 0, none⟩) n1 cap1)).1 (fun a v h => .inl (.inl (.inr h))))
   have hd := desk_stored (W := wR) (V := V) hA hO4 (fun j t a hj ha hj1 hj2 => by rw [upd_ne _ _ hj2, upd_ne _ _ hj1]; exact hV4 j t a hj ha)
   rw [upd_same, upd_ne _ _ (by omega : i ≠ i + 1), upd_same] at hd
   have HD := Lib.hid (hd.weak (St' := St) (fun a v h => .inl (.inl (.inl h))))
   have HBE := Lib.hid ((hb4.setCell (p := ⟨x, 11, none⟩) (by simpa using hsz.2.1) (.slice (some ⟨g1, 0, none⟩) n1 cap1)).setCell (p := ⟨x, 12, none⟩) (by simpa using hsz.2.1) (.slice (some ⟨g2, 0, none⟩) n2 cap2))
   clear hd hO4 hV4 hb4
   go_wp2_with fail
   clear hB
   have hB := hB1.out
   refine One_odr (by repeat (first | exact Obl.nil | (refine Obl.out rfl ?_) | (refine Obl.in (KW.mk' hc) ?_) | (refine Obl.in (KW.mk' hr) ?_) | (refine Obl.in (KW.mk' hB) ?_))) (wpOdr_done ?_)
   simp only [List.drop_succ_cons, List.drop_zero]
   clear hB hB1
   go_wp2_with fail
   refine NP_mk ?_
   exact cut_meet (by simp [forget]) ⟨HD.out, HBE.out⟩
 ·rintro u W2 ⟨hD2, hb2⟩
  obtain ⟨g, cap, k1, k2, k3, k4, k5, k6, k7⟩ := hD2.rowC hAS (by simp)
  have HD := Lib.hid hD2
  simp only [List.length_append, List.length_cons, List.length_nil] at k1
  have v1 : IntKind.i64.wrap ((s.cuts.length : Int) + 1 - 1) = s.cuts.length := by rw [Int.add_sub_cancel]; exact IntWalk.i64_in _ (by omega)
  clear k7 hD2 hO hV hD1
  simp only [forget, List.foldl_cons, List.foldl_nil]
  go_wp2_with fail
  go_goals
  go_ret
  exact ⟨rfl, HD.out, hb2⟩
end Go.Proofs.YtjmgboipbhddlaaGreatDoor
