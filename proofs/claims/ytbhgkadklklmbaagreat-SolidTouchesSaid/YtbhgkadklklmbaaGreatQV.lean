/- New cells beside a row that grows; a row's end. -/
import Derived.Test.YtbhgkadklklmbaaGreatQS
import Derived.Test.YtbhgkadklklmbaaGreatQP
set_option linter.unusedVariables false
set_option linter.unusedSimpArgs false
namespace Go.Proofs.YtbhgkadklklmbaaGreat
open Go Go.RowKit Go.Sort Go.Lib

/-- Cells that were just made, apart from a row of the call's own. -/
structure NewX (w : World) (v : Value) (gx : Nat) (es : List Value) : Prop where
 c : ∀ j u, es[j]? = some u → w.cell? ((⟨gx, 0, none⟩ : Addr).add j) = some u
 o : v.ownBlock ≠ some gx
 l : gx < w.heap.size
theorem NewX.new {w : World} {v : Value} (es : List Value) (T : TypeId) (h : ∀ j, v.ownBlock = some j → j < w.heap.size) : NewX (w.alloc (.cells es.toArray T)) v w.heap.size es :=
 ⟨news_of es T w _ rfl, fun e => by have := h _ e; omega, by simp⟩
theorem NewX.keep {w w' : World} {v : Value} {gx : Nat} {es : List Value} (h : NewX w v gx es) (hb : Below w.heap.size w w') : NewX w' v gx es :=
 ⟨fun j u hj => cell_keep hb (h.c j u hj), h.o, Nat.lt_of_lt_of_le h.l hb.size⟩
theorem NewX.row {w : World} {v v' : Value} {gx : Nat} {es : List Value} (h : NewX w v gx es) (hv : v'.ownBlock ≠ some gx) : NewX w v' gx es := ⟨h.c, hv, h.l⟩
theorem NewX.grown {w w' : World} {v v' : Value} {gx : Nat} {es : List Value} (h : NewX w v gx es) (hg : w.grownBy w' v.ownBlock) (hv : v'.ownBlock = v.ownBlock ∨ v'.ownBlock = some w.heap.size) : NewX w' v' gx es := by
 have e0 : ∀ j, ((⟨gx, 0, none⟩ : Addr).add j).block = gx := fun j => by rw [addr_add]
 refine ⟨fun j u hj => grown_cell hg (h.c j u hj) (by rw [e0]; exact h.o), ?_, Nat.lt_of_lt_of_le h.l hg.size⟩
 rcases hv with e | e
 ·rw [e]; exact h.o
 ·rw [e]; intro e'; injection e' with e'; have := h.l; omega
theorem RowV.drop {sz : Nat} {α : Type} {R : World → Nat → Nat → α → Prop} {w : World} {b o : Nat} {l : List α} (h : RowV sz R w (some ⟨b, o, none⟩) l) (m : Nat) : RowV sz R w (some ⟨b, o + m * sz, none⟩) (l.drop m) := by
 intro hne
 obtain ⟨b', o', ha, hx⟩ := h (by rintro rfl; simp at hne)
 injection ha with ha
 injection ha with h1 h2
 subst h1 h2
 refine ⟨b, o + m * sz, rfl, fun k x hk => ?_⟩
 rw [List.getElem?_drop] at hk
 have := hx _ x hk
 rw [Nat.add_mul, ← Nat.add_assoc] at this
 exact this
end Go.Proofs.YtbhgkadklklmbaaGreat
/- The document's points in their order. -/
set_option linter.unusedVariables false
set_option linter.unusedSimpArgs false
namespace Go.Proofs.YtbhgkadklklmbaaGreat
open Go Go.RowKit Go.Sort Go.Lib

/-- Where a point is put in. -/
def atP (lt : Co → Co → Bool) (c : Co) (out : List Co) : Nat → Nat
 | 0 => 0
 | n + 1 => if h : n < out.length then (if lt c out[n] then atP lt c out n else n + 1) else n + 1
theorem bins_atP (lt : Co → Co → Bool) (c : Co) (out : List Co) : ∀ n, n ≤ out.length → atP lt c out n ≤ n ∧ bins lt c out n = out.take (atP lt c out n) ++ [c] ++ out.drop (atP lt c out n)
 | 0, _ => by simp [atP, bins]
 | n + 1, hn => by
  unfold atP bins
  rw [dif_pos (show n < out.length by omega), dif_pos (show n < out.length by omega)]
  split
  ·have := bins_atP lt c out n (by omega)
   exact ⟨by omega, this.2⟩
  ·exact ⟨Nat.le_refl _, rfl⟩
theorem atP_step {lt : Co → Co → Bool} {c : Co} {out : List Co} {n : Nat} (h : n < out.length) : atP lt c out (n + 1) = if lt c out[n] then atP lt c out n else n + 1 := by
 rw [atP, dif_pos h]
set_option maxRecDepth 100000 in
set_option maxHeartbeats 16000000 in
theorem sortedR_any (cs : List Co) (ca : Option Addr) (cc : Nat) (w : World) (hv : Cos.V w ca cs) (hci : ∀ c ∈ cs, c.in_) (hl : cs.length ≤ 500000) :
    Calls Tryz.prog 30 #[.slice ca cs.length cc] w fun e w' => ∃ a c, e = .returned (.slice a (sortB ltPb cs).length c) ∧ w'.ownsRow w.heap.size 60 4 (.slice a (sortB ltPb cs).length c) (sortB ltPb cs).length ((sortB ltPb cs).flatMap cellsCo) ∧ Below w.heap.size w w' := by
 have hmix : Tryz.prog.follows .mixedOrders = true := by kernel_rfl
 obtain ⟨i0, hi0, hz0, hz1, hz2⟩ := info_parts coInfo
 obtain ⟨R, hR⟩ : ∃ R, R = sortB ltPb cs := ⟨_, rfl⟩
 rw [← hR]
 have HR := Lib.hid hR
 have HV := Lib.hid hv
 have HCI := Lib.hid hci
 clear hv hci hR
 go_enter Tryz.func30, Tryz.ntmps30
 go_wp2_with fail
 go_loopw [3, 4] (fun ov iv wr => ∃ (i : Nat) (L : List Co), i ≤ cs.length ∧ iv = .int .i64 (i : Int) ∧ Hid (L = sortB ltPb (cs.take i)) ∧ Hid (L.length = i) ∧ Hid (∀ c ∈ L, c.in_) ∧ wr.ownsRow w.heap.size 60 4 ov L.length (L.flatMap cellsCo) ∧ Below w.heap.size w wr) (fun _ iv _ => cs.length - (intOf iv).toNat)
 case atStart => exact ⟨0, [], Nat.zero_le _, rfl, Lib.hid rfl, Lib.hid rfl, Lib.hid (fun c hc => absurd hc (by simp)), ⟨rfl, .inl ⟨rfl, rfl⟩⟩, Below.refl _ _⟩
 case round =>
  obtain ⟨i, L, hi, rfl, HL, HLL, HLI, hown, hb⟩ := hrel
  obtain ⟨W1, rfl⟩ : ∃ W1 : World, W1 = wr := ⟨_, rfl⟩
  have HO := Lib.hid hown
  have HB := Lib.hid hb
  obtain ⟨oa, oc, rfl, hoc, hom⟩ := own_slice hown
  have HOC := Lib.hid (And.intro hoc hom)
  have HVW := Lib.hid (HV.out.keep hb)
  have hlb : L.length ≤ 500000 := by have := HLL.out; omega
  clear hown hb hoc hom
  by_cases hlt : i < cs.length
  ·have hki : (i : Int) < (cs.length : Int) := by omega
   obtain ⟨bb, off, rfl, hat⟩ := HVW.out.at_ hlt
   have HTK := Lib.hid (show cs.take (i + 1) = cs.take i ++ [cs[i]] from List.take_succ_eq_append_getElem hlt)
   have HXI := Lib.hid (HCI.out _ (List.getElem_mem hlt))
   generalize cs[i] = x at *
   obtain ⟨x0, x1, x2, x3, -⟩ := hat
   have HX := Lib.hid (show W1.cell? ⟨bb, off + i * 4, none⟩ = some (.int .i64 x.x) ∧ W1.cell? ⟨bb, off + i * 4 + 1, none⟩ = some (.int .i64 x.y) ∧ W1.cell? ⟨bb, off + i * 4 + 2, none⟩ = some (.int .i64 x.z) ∧ W1.cell? ⟨bb, off + i * 4 + 3, none⟩ = some (.int .i64 x.n) from ⟨x0, x1, x2, x3⟩)
   have HOV := Lib.hid (ownCoV (fun c hc => Co.in_.wf (HLI.out c hc)) HO.out)
   clear x0 x1 x2 x3
   go_wp2_with fail
   go_loopw [5] (fun av wq => ∃ n : Nat, n ≤ L.length ∧ av = .int .i64 (n : Int) ∧ Hid (atP ltPb x L L.length = atP ltPb x L n) ∧ Below W1.heap.size W1 wq) (fun av _ => (intOf av).toNat)
   case atStart => exact ⟨L.length, Nat.le_refl _, rfl, Lib.hid rfl, Below.refl _ _⟩
   case round =>
    obtain ⟨n, hn, rfl, HN, hb⟩ := hrel
    have HB2 := Lib.hid hb
    obtain ⟨x0, x1, x2, x3⟩ := HX.out
    have x0 := cell_keep hb x0
    have x1 := cell_keep hb x1
    have x2 := cell_keep hb x2
    have x3 := cell_keep hb x3
    have hlx := block_lt_of_cell x0
    simp only at hlx
    by_cases hpos : 0 < n
    ·obtain ⟨n, rfl⟩ : ∃ k, n = k + 1 := ⟨n - 1, by omega⟩
     have hki0 : ((n + 1 : Nat) : Int) > 0 := by omega
     have hnl : n < L.length := by omega
     have v1 : IntKind.i64.wrap (((n + 1 : Nat) : Int) - 1) = (n : Int) := by rw [show ((n + 1 : Nat) : Int) - 1 = (n : Int) by omega]; exact IntWalk.i64_in _ (by omega)
     obtain ⟨ob, ooff, rfl, hat⟩ := (HOV.out.keep hb).at_ hnl
     have HST := Lib.hid (atP_step (lt := ltPb) (c := x) hnl)
     have HYI := Lib.hid (HLI.out _ (List.getElem_mem hnl))
     generalize L[n] = y at *
     obtain ⟨y0, y1, y2, y3, -⟩ := hat
     have hly := block_lt_of_cell y0
     simp only at hly
     have HBE := Lib.hid (fun W => before_any x y HXI.out HYI.out W)
     generalize hE : ltPb x y = E at *
     have HE := Lib.hid hE
     clear hE hb
     have q1 : ¬ (n : Int) < 0 := by omega
     have q2 : ((n : Int)).toNat = n := by omega
     have q3 : n < L.length := hnl
     go_upto_region 6 with fail
     refine wp_region_grew (by kernel_rfl) (by kernel_rfl) ?_
     repeat (first
      | go_big_quiet_step (first | (go_at_call 85; exact grew_of (HBE.out _)))
      | quiet_step (first | (go_at_call 85; exact grew_of (HBE.out _))))
     refine wpQuiet_nil ?_
     rintro _ ⟨gg, rfl⟩
     have HFB := Lib.hid (show Below W1.heap.size W1 (grew wr gg) from grewB HB2.out HB2.out.size _)
     cases E with
     | true =>
      have HNX := Lib.hid (show atP ltPb x L L.length = atP ltPb x L n by rw [HN.out, HST.out]; rfl)
      go_wp2_with fail
      go_roundw
      case rel => exact ⟨n, by omega, by go_num, HNX, HFB.out⟩
      case measure => first | (simp [intOf]; done) | (simp [intOf]; omega)
     | false =>
      have HNX0 := Lib.hid (show atP ltPb x L L.length = n + 1 by rw [HN.out, HST.out]; rfl)
      have HB8 := Lib.hid HFB.out
      generalize grew wr gg = W8 at HB8 ⊢
      clear x0 x1 x2 x3 hlx y0 y1 y2 y3 hly HFB HST HN v1 hki0 q1 q2 q3
      have hml : n + 1 ≤ L.length := by omega
      generalize n + 1 = m at *
      have x0 := cell_keep HB8.out HX.out.1
      have x1 := cell_keep HB8.out HX.out.2.1
      have x2 := cell_keep HB8.out HX.out.2.2.1
      have x3 := cell_keep HB8.out HX.out.2.2.2
      have HBW8 := Lib.hid (HB.out.trans (HB8.out.mono HB.out.size))
      have HOV8 := Lib.hid (HOV.out.keep HB8.out)
      obtain ⟨P, hP⟩ : ∃ P, P = L.take m := ⟨_, rfl⟩
      obtain ⟨D, hD⟩ : ∃ D, D = L.drop m := ⟨_, rfl⟩
      have HPL := Lib.hid (show P.length = m by rw [hP, List.length_take]; omega)
      have HDL := Lib.hid (show D.length = L.length - m by rw [hD, List.length_drop])
      have HTV := Lib.hid (show Cos.V W8 (some ⟨ob, ooff, none⟩) P by rw [hP]; exact RowV.take HOV8.out m)
      have HLN := Lib.hid (show P ++ [x] ++ D = sortB ltPb (cs.take (i + 1)) by
       rw [HTK.out, sortB_snoc, ← HL.out, hP, hD]
       unfold putB
       rw [(bins_atP ltPb x L L.length (Nat.le_refl _)).2, HNX0.out])
      have HLI2 := Lib.hid (show ∀ c ∈ P ++ [x] ++ D, c.in_ from fun c hc => by
       rw [hP, hD] at hc
       rcases List.mem_append.1 hc with hc | hc
       ·rcases List.mem_append.1 hc with hc | hc
        ·exact HLI.out c (List.mem_of_mem_take hc)
        ·rw [List.mem_singleton] at hc; subst hc; exact HXI.out
       ·exact HLI.out c (List.mem_of_mem_drop hc))
      have HDV := Lib.hid (show Cos.V W8 (if oc = m then some ⟨ob, ooff, none⟩ else some ⟨ob, ooff + m * 4, none⟩) D by
       rw [hD]
       split
       ·rename_i hcm
        rw [List.drop_of_length_le (by have := HOC.out.1; omega)]; exact RowV.nil
       ·exact RowV.drop HOV8.out m)
      have hmo : m ≤ oc := by have := HOC.out.1; omega
      have hml2 : m ≤ L.length := hml
      clear hP hD
      have kx0 : ∀ y : KW (fun W' => Below W8.heap.size W8 W'), (y.w.cell? ⟨bb, off + i * 4, none⟩ = some (.int .i64 x.x) ∧ y.w.cell? ⟨bb, off + i * 4 + 1, none⟩ = some (.int .i64 x.y) ∧ y.w.cell? ⟨bb, off + i * 4 + 2, none⟩ = some (.int .i64 x.z) ∧ y.w.cell? ⟨bb, off + i * 4 + 3, none⟩ = some (.int .i64 x.n)) := fun y => ⟨cell_keep y.ok x0, cell_keep y.ok x1, cell_keep y.ok x2, cell_keep y.ok x3⟩
      haveI n1 : Nonempty (KW (fun W' => Below W8.heap.size W8 W')) := ⟨⟨W8, Below.refl _ _⟩⟩
      go_upto_region 8 with fail
      refine wp_region_tree (fun w' => ∃ y : KW (fun W' => Below W8.heap.size W8 W'), w' = y.w) 14 (.take 1 (.take 2 (.take 3 (.take 5 (.take 6 (.take 7 (.take 8 (.take 11 (.take 12 (.take 13 (.two 0 (.two 4 (.one 9 (.one 10 .done)) 9 (.one 4 (.one 10 .done))) 9 (.one 0 (.one 4 (.one 10 .done)))))))))))))) hmix (by kernel_rfl) (KW.mk' (Below.refl _ _).drew) ?_
      have HC := Lib.hid (show Below W8.heap.size W8 W8.drew from (Below.refl _ _).drew)
      generalize W8.drew = wz at *
      repeat (refine wpTree_take ?_; simp only [nthOp]; (first | go_big_quiet_step (fail) | quiet_step (fail)); refine wpQuiet_nil ?_)
      generalize (if oc = m then (some ⟨ob, ooff, none⟩ : Option Addr) else some ⟨ob, ooff + m * 4, none⟩) = A2 at HDV ⊢
      refine wpTree_two ?_ ?_
      ·skip
       simp only [nthOp]
       go_wp2_with fail
       have HAL := Lib.hid ((Below.refl wz.heap.size wz).alloc (Nat.le_refl _) (.cells #[] 60))
       have HO0 := Lib.hid (World.ownsRow_made (e := 60) (base := W8.heap.size) (size := 4) wz #[] 0 HC.out.size (by decide) (by simp))
       have HC := Lib.hid (HC.out.alloc HC.out.size (.cells #[] 60))
       refine One_mk (KW.mk' HC.out) ?_
       clear HAL
       generalize (wz.alloc (.cells #[] 60)) = wa at *
       generalize wz.heap.size = g0 at *
       refine wpTree_two ?_ ?_
       ·skip
        simp only [nthOp]
        have HTN := Lib.hid (cosNews (HTV.out.keep HC.out))
        go_wp2_with (at_builtin; refine wpList_append_rows cellsCo_len cellsCo_one (by decide) rfl _ _ 33 rfl W8.heap.size 60 i0 _ 32 Tryz.underlying33 hi0 hz0 hz1 hz2 rfl (by decide) (.slice (some ⟨g0, 0, none⟩) 0 0) 0 [] rfl HO0.out (some ⟨ob, ooff, none⟩) P oc (by rw [HPL.out]; rfl) HTN.out (by have := HPL.out; omega) HC.out.size ?_; intro v' wb ho hg ha; obtain ⟨a4, c4, rfl, -, -⟩ := own_slice ho; have HO4 := Lib.hid (show wb.ownsRow W8.heap.size 60 4 (.slice a4 P.length c4) P.length (P.flatMap cellsCo) by simpa using ho); have HC := Lib.hid (below_grown HC.out hg HC.out.size fun k hk => (own_lt HO0.out hk).1); clear ho hg ha)
        refine One_mk (KW.mk' HC.out) ?_
        refine wpTree_one ?_
        simp only [nthOp]
        go_wp2_with fail
        have HAL := Lib.hid ((Below.refl wb.heap.size wb).alloc (Nat.le_refl _) (.cells #[.int .i64 x.x, .int .i64 x.y, .int .i64 x.z, .int .i64 x.n] 60))
        have HNX := Lib.hid (show NewX (wb.alloc (.cells #[.int .i64 x.x, .int .i64 x.y, .int .i64 x.z, .int .i64 x.n] 60)) (.slice a4 P.length c4) wb.heap.size (cellsCo x) from NewX.new (cellsCo x) 60 (fun j hj => (own_lt HO4.out hj).2))
        have HO4 := Lib.hid (own_keep HO4.out HAL.out)
        have HC := Lib.hid (HC.out.alloc HC.out.size (.cells #[.int .i64 x.x, .int .i64 x.y, .int .i64 x.z, .int .i64 x.n] 60))
        refine One_mk (KW.mk' HC.out) ?_
        clear HAL
        generalize (wb.alloc (.cells #[.int .i64 x.x, .int .i64 x.y, .int .i64 x.z, .int .i64 x.n] 60)) = wc at *
        generalize wb.heap.size = gx at *
        refine wpTree_one ?_
        simp only [nthOp]
        go_wp2_with (at_builtin; refine wpList_append_here _ rfl _ _ 33 rfl W8.heap.size 60 i0 (.agg #[.int .i64 0, .int .i64 0, .int .i64 0, .int .i64 0]) 4 32 Tryz.underlying33 hi0 hz0 hz1 hz2 rfl (by decide) (.slice a4 P.length c4) P.length (P.flatMap cellsCo) (by rw [HPL.out]; rfl) HO4.out ⟨gx, 0, none⟩ 1 1 (cellsCo x) rfl rfl HNX.out.c (cellsCo_one x) (by decide) (by have := HPL.out; simp only [maxLen]; omega) (by have := HPL.out; omega) HC.out.size ?_; intro v' wd ho hg ha; obtain ⟨a5, c5, rfl, -, -⟩ := own_slice ho; have HO5 := Lib.hid (show wd.ownsRow W8.heap.size 60 4 (.slice a5 (P.length + 1) c5) (P.length + 1) ((P ++ [x]).flatMap cellsCo) by rw [List.flatMap_append]; simpa using ho); have HC := Lib.hid (below_grown HC.out hg HC.out.size fun k hk => (own_lt HO4.out hk).1); clear ho hg ha)
        refine One_mk (KW.mk' HC.out) ?_
        refine wpTree_done ?_
        simp only [List.drop_succ_cons, List.drop_zero]
        have HDN := Lib.hid (cosNews (HDV.out.keep HC.out))
        go_wp2_with (at_builtin; refine wpList_append_rows cellsCo_len cellsCo_one (by decide) rfl _ _ 33 rfl W8.heap.size 60 i0 _ 32 Tryz.underlying33 hi0 hz0 hz1 hz2 rfl (by decide) (.slice a5 (P.length + 1) c5) (P.length + 1) ((P ++ [x]).flatMap cellsCo) rfl HO5.out A2 D (oc - m) (by rw [HDL.out]; rfl) HDN.out (by have := HPL.out; have := HDL.out; omega) HC.out.size ?_; intro v' wg ho hg ha; obtain ⟨a6, c6, rfl, -, -⟩ := own_slice ho; have HO6 := Lib.hid (show wg.ownsRow W8.heap.size 60 4 (.slice a6 (P.length + 1 + D.length) c6) (P.length + 1 + D.length) ((P ++ [x] ++ D).flatMap cellsCo) by rw [List.flatMap_append]; exact ho); have HC := Lib.hid (below_grown HC.out hg HC.out.size fun k hk => (own_lt HO5.out hk).1); clear ho hg ha)
        refine NP_mk ?_
        go_wp2_with fail
        go_roundw
        case rel => exact ⟨i + 1, P ++ [x] ++ D, by omega, by go_num, HLN, Lib.hid (by have := HPL.out; have := HDL.out; have := HLL.out; simp; omega), HLI2, by rw [show (P ++ [x] ++ D).length = P.length + 1 + D.length by simp; omega]; exact own_mono HO6.out HBW8.out.size, HBW8.out.trans (HC.out.mono HBW8.out.size)⟩
        case measure => first | (simp [intOf]; done) | (simp [intOf]; omega)
       ·skip
        simp only [nthOp]
        go_wp2_with fail
        have HAL := Lib.hid ((Below.refl wa.heap.size wa).alloc (Nat.le_refl _) (.cells #[.int .i64 x.x, .int .i64 x.y, .int .i64 x.z, .int .i64 x.n] 60))
        have HNX := Lib.hid (show NewX (wa.alloc (.cells #[.int .i64 x.x, .int .i64 x.y, .int .i64 x.z, .int .i64 x.n] 60)) (.slice (some ⟨g0, 0, none⟩) 0 0) wa.heap.size (cellsCo x) from NewX.new (cellsCo x) 60 (fun j hj => (own_lt HO0.out hj).2))
        have HO0 := Lib.hid (own_keep HO0.out HAL.out)
        have HC := Lib.hid (HC.out.alloc HC.out.size (.cells #[.int .i64 x.x, .int .i64 x.y, .int .i64 x.z, .int .i64 x.n] 60))
        refine One_mk (KW.mk' HC.out) ?_
        clear HAL
        generalize (wa.alloc (.cells #[.int .i64 x.x, .int .i64 x.y, .int .i64 x.z, .int .i64 x.n] 60)) = wb at *
        generalize wa.heap.size = gx at *
        refine wpTree_one ?_
        simp only [nthOp]
        have HTN := Lib.hid (cosNews (HTV.out.keep HC.out))
        go_wp2_with (at_builtin; refine wpList_append_rows cellsCo_len cellsCo_one (by decide) rfl _ _ 33 rfl W8.heap.size 60 i0 _ 32 Tryz.underlying33 hi0 hz0 hz1 hz2 rfl (by decide) (.slice (some ⟨g0, 0, none⟩) 0 0) 0 [] rfl HO0.out (some ⟨ob, ooff, none⟩) P oc (by rw [HPL.out]; rfl) HTN.out (by have := HPL.out; omega) HC.out.size ?_; intro v' wc ho hg ha; obtain ⟨a4, c4, rfl, -, -⟩ := own_slice ho; have HO4 := Lib.hid (show wc.ownsRow W8.heap.size 60 4 (.slice a4 P.length c4) P.length (P.flatMap cellsCo) by simpa using ho); have HNX := Lib.hid (HNX.out.grown hg ha); have HC := Lib.hid (below_grown HC.out hg HC.out.size fun k hk => (own_lt HO0.out hk).1); clear ho hg ha)
        refine One_mk (KW.mk' HC.out) ?_
        refine wpTree_one ?_
        simp only [nthOp]
        go_wp2_with (at_builtin; refine wpList_append_here _ rfl _ _ 33 rfl W8.heap.size 60 i0 (.agg #[.int .i64 0, .int .i64 0, .int .i64 0, .int .i64 0]) 4 32 Tryz.underlying33 hi0 hz0 hz1 hz2 rfl (by decide) (.slice a4 P.length c4) P.length (P.flatMap cellsCo) (by rw [HPL.out]; rfl) HO4.out ⟨gx, 0, none⟩ 1 1 (cellsCo x) rfl rfl HNX.out.c (cellsCo_one x) (by decide) (by have := HPL.out; simp only [maxLen]; omega) (by have := HPL.out; omega) HC.out.size ?_; intro v' wd ho hg ha; obtain ⟨a5, c5, rfl, -, -⟩ := own_slice ho; have HO5 := Lib.hid (show wd.ownsRow W8.heap.size 60 4 (.slice a5 (P.length + 1) c5) (P.length + 1) ((P ++ [x]).flatMap cellsCo) by rw [List.flatMap_append]; simpa using ho); have HC := Lib.hid (below_grown HC.out hg HC.out.size fun k hk => (own_lt HO4.out hk).1); clear ho hg ha)
        refine One_mk (KW.mk' HC.out) ?_
        refine wpTree_done ?_
        simp only [List.drop_succ_cons, List.drop_zero]
        have HDN := Lib.hid (cosNews (HDV.out.keep HC.out))
        go_wp2_with (at_builtin; refine wpList_append_rows cellsCo_len cellsCo_one (by decide) rfl _ _ 33 rfl W8.heap.size 60 i0 _ 32 Tryz.underlying33 hi0 hz0 hz1 hz2 rfl (by decide) (.slice a5 (P.length + 1) c5) (P.length + 1) ((P ++ [x]).flatMap cellsCo) rfl HO5.out A2 D (oc - m) (by rw [HDL.out]; rfl) HDN.out (by have := HPL.out; have := HDL.out; omega) HC.out.size ?_; intro v' wg ho hg ha; obtain ⟨a6, c6, rfl, -, -⟩ := own_slice ho; have HO6 := Lib.hid (show wg.ownsRow W8.heap.size 60 4 (.slice a6 (P.length + 1 + D.length) c6) (P.length + 1 + D.length) ((P ++ [x] ++ D).flatMap cellsCo) by rw [List.flatMap_append]; exact ho); have HC := Lib.hid (below_grown HC.out hg HC.out.size fun k hk => (own_lt HO5.out hk).1); clear ho hg ha)
        refine NP_mk ?_
        go_wp2_with fail
        go_roundw
        case rel => exact ⟨i + 1, P ++ [x] ++ D, by omega, by go_num, HLN, Lib.hid (by have := HPL.out; have := HDL.out; have := HLL.out; simp; omega), HLI2, by rw [show (P ++ [x] ++ D).length = P.length + 1 + D.length by simp; omega]; exact own_mono HO6.out HBW8.out.size, HBW8.out.trans (HC.out.mono HBW8.out.size)⟩
        case measure => first | (simp [intOf]; done) | (simp [intOf]; omega)
      ·skip
       simp only [nthOp]
       go_wp2_with fail
       have HAL := Lib.hid ((Below.refl wz.heap.size wz).alloc (Nat.le_refl _) (.cells #[.int .i64 x.x, .int .i64 x.y, .int .i64 x.z, .int .i64 x.n] 60))
       have HNX := Lib.hid (show NewX (wz.alloc (.cells #[.int .i64 x.x, .int .i64 x.y, .int .i64 x.z, .int .i64 x.n] 60)) (.slice none 0 0) wz.heap.size (cellsCo x) from NewX.new (cellsCo x) 60 (fun j hj => by cases hj))
       have HC := Lib.hid (HC.out.alloc HC.out.size (.cells #[.int .i64 x.x, .int .i64 x.y, .int .i64 x.z, .int .i64 x.n] 60))
       refine One_mk (KW.mk' HC.out) ?_
       clear HAL
       generalize (wz.alloc (.cells #[.int .i64 x.x, .int .i64 x.y, .int .i64 x.z, .int .i64 x.n] 60)) = wa at *
       generalize wz.heap.size = gx at *
       refine wpTree_one ?_
       simp only [nthOp]
       go_wp2_with fail
       have HAL := Lib.hid ((Below.refl wa.heap.size wa).alloc (Nat.le_refl _) (.cells #[] 60))
       have HO0 := Lib.hid (World.ownsRow_made (e := 60) (base := W8.heap.size) (size := 4) wa #[] 0 HC.out.size (by decide) (by simp))
       have HNX := Lib.hid ((HNX.out.keep HAL.out).row (v' := .slice (some ⟨wa.heap.size, 0, none⟩) 0 0) (fun e => by injection e with e; have := HNX.out.l; simp only at e; omega))
       have HC := Lib.hid (HC.out.alloc HC.out.size (.cells #[] 60))
       refine One_mk (KW.mk' HC.out) ?_
       clear HAL
       generalize (wa.alloc (.cells #[] 60)) = wb at *
       generalize wa.heap.size = g0 at *
       refine wpTree_one ?_
       simp only [nthOp]
       have HTN := Lib.hid (cosNews (HTV.out.keep HC.out))
       go_wp2_with (at_builtin; refine wpList_append_rows cellsCo_len cellsCo_one (by decide) rfl _ _ 33 rfl W8.heap.size 60 i0 _ 32 Tryz.underlying33 hi0 hz0 hz1 hz2 rfl (by decide) (.slice (some ⟨g0, 0, none⟩) 0 0) 0 [] rfl HO0.out (some ⟨ob, ooff, none⟩) P oc (by rw [HPL.out]; rfl) HTN.out (by have := HPL.out; omega) HC.out.size ?_; intro v' wc ho hg ha; obtain ⟨a4, c4, rfl, -, -⟩ := own_slice ho; have HO4 := Lib.hid (show wc.ownsRow W8.heap.size 60 4 (.slice a4 P.length c4) P.length (P.flatMap cellsCo) by simpa using ho); have HNX := Lib.hid (HNX.out.grown hg ha); have HC := Lib.hid (below_grown HC.out hg HC.out.size fun k hk => (own_lt HO0.out hk).1); clear ho hg ha)
       refine One_mk (KW.mk' HC.out) ?_
       refine wpTree_one ?_
       simp only [nthOp]
       go_wp2_with (at_builtin; refine wpList_append_here _ rfl _ _ 33 rfl W8.heap.size 60 i0 (.agg #[.int .i64 0, .int .i64 0, .int .i64 0, .int .i64 0]) 4 32 Tryz.underlying33 hi0 hz0 hz1 hz2 rfl (by decide) (.slice a4 P.length c4) P.length (P.flatMap cellsCo) (by rw [HPL.out]; rfl) HO4.out ⟨gx, 0, none⟩ 1 1 (cellsCo x) rfl rfl HNX.out.c (cellsCo_one x) (by decide) (by have := HPL.out; simp only [maxLen]; omega) (by have := HPL.out; omega) HC.out.size ?_; intro v' wd ho hg ha; obtain ⟨a5, c5, rfl, -, -⟩ := own_slice ho; have HO5 := Lib.hid (show wd.ownsRow W8.heap.size 60 4 (.slice a5 (P.length + 1) c5) (P.length + 1) ((P ++ [x]).flatMap cellsCo) by rw [List.flatMap_append]; simpa using ho); have HC := Lib.hid (below_grown HC.out hg HC.out.size fun k hk => (own_lt HO4.out hk).1); clear ho hg ha)
       refine One_mk (KW.mk' HC.out) ?_
       refine wpTree_done ?_
       simp only [List.drop_succ_cons, List.drop_zero]
       have HDN := Lib.hid (cosNews (HDV.out.keep HC.out))
       go_wp2_with (at_builtin; refine wpList_append_rows cellsCo_len cellsCo_one (by decide) rfl _ _ 33 rfl W8.heap.size 60 i0 _ 32 Tryz.underlying33 hi0 hz0 hz1 hz2 rfl (by decide) (.slice a5 (P.length + 1) c5) (P.length + 1) ((P ++ [x]).flatMap cellsCo) rfl HO5.out A2 D (oc - m) (by rw [HDL.out]; rfl) HDN.out (by have := HPL.out; have := HDL.out; omega) HC.out.size ?_; intro v' wg ho hg ha; obtain ⟨a6, c6, rfl, -, -⟩ := own_slice ho; have HO6 := Lib.hid (show wg.ownsRow W8.heap.size 60 4 (.slice a6 (P.length + 1 + D.length) c6) (P.length + 1 + D.length) ((P ++ [x] ++ D).flatMap cellsCo) by rw [List.flatMap_append]; exact ho); have HC := Lib.hid (below_grown HC.out hg HC.out.size fun k hk => (own_lt HO5.out hk).1); clear ho hg ha)
       refine NP_mk ?_
       go_wp2_with fail
       go_roundw
       case rel => exact ⟨i + 1, P ++ [x] ++ D, by omega, by go_num, HLN, Lib.hid (by have := HPL.out; have := HDL.out; have := HLL.out; simp; omega), HLI2, by rw [show (P ++ [x] ++ D).length = P.length + 1 + D.length by simp; omega]; exact own_mono HO6.out HBW8.out.size, HBW8.out.trans (HC.out.mono HBW8.out.size)⟩
       case measure => first | (simp [intOf]; done) | (simp [intOf]; omega)
    ·have hki0 : ¬ (n : Int) > 0 := by omega
     have HM0 := Lib.hid (show n = 0 by omega)
     have HNX0 := Lib.hid (show atP ltPb x L L.length = n by rw [HN.out, HM0.out]; rfl)
     have hk1 : decide (0 < n) = false := decide_eq_false (by omega)
     clear hb hpos HN
     go_upto_region 6 with fail
     refine wp_region_grew (by kernel_rfl) (by kernel_rfl) ?_
     repeat (first | go_big_quiet_step (fail) | quiet_step (fail))
     refine wpQuiet_nil ?_
     rintro _ ⟨gg, rfl⟩
     have HB8 := Lib.hid (show Below W1.heap.size W1 (grew wr gg) from grewB HB2.out HB2.out.size _)
     generalize grew wr gg = W8 at HB8 ⊢
     clear x0 x1 x2 x3 hlx hki0 hk1
     have hml : n ≤ L.length := hn
     generalize n = m at *
     rcases HO.out.2 with ⟨e0, hn0⟩ | ⟨og, ocap, ocur, e0, -⟩
     ·injection e0 with e1 e2 e3
      subst e1
      clear e2 hn0 e3
      have x0 := cell_keep HB8.out HX.out.1
      have x1 := cell_keep HB8.out HX.out.2.1
      have x2 := cell_keep HB8.out HX.out.2.2.1
      have x3 := cell_keep HB8.out HX.out.2.2.2
      have HBW8 := Lib.hid (HB.out.trans (HB8.out.mono HB.out.size))
      have HOV8 := Lib.hid (HOV.out.keep HB8.out)
      obtain ⟨P, hP⟩ : ∃ P, P = L.take m := ⟨_, rfl⟩
      obtain ⟨D, hD⟩ : ∃ D, D = L.drop m := ⟨_, rfl⟩
      have HPL := Lib.hid (show P.length = m by rw [hP, List.length_take]; omega)
      have HDL := Lib.hid (show D.length = L.length - m by rw [hD, List.length_drop])
      have HTV := Lib.hid (show Cos.V W8 none P by rw [hP]; exact RowV.take HOV8.out m)
      have HLN := Lib.hid (show P ++ [x] ++ D = sortB ltPb (cs.take (i + 1)) by
       rw [HTK.out, sortB_snoc, ← HL.out, hP, hD]
       unfold putB
       rw [(bins_atP ltPb x L L.length (Nat.le_refl _)).2, HNX0.out])
      have HLI2 := Lib.hid (show ∀ c ∈ P ++ [x] ++ D, c.in_ from fun c hc => by
       rw [hP, hD] at hc
       rcases List.mem_append.1 hc with hc | hc
       ·rcases List.mem_append.1 hc with hc | hc
        ·exact HLI.out c (List.mem_of_mem_take hc)
        ·rw [List.mem_singleton] at hc; subst hc; exact HXI.out
       ·exact HLI.out c (List.mem_of_mem_drop hc))
      have HDV := Lib.hid (show Cos.V W8 none D from fun hne => by obtain ⟨b, o, h, _⟩ := HOV8.out (fun e => hne (by rw [hD, e]; simp)); cases h)
      have hmo : m ≤ oc := by have := HOC.out.1; omega
      have hml2 : m ≤ L.length := hml
      clear hP hD
      have kx0 : ∀ y : KW (fun W' => Below W8.heap.size W8 W'), (y.w.cell? ⟨bb, off + i * 4, none⟩ = some (.int .i64 x.x) ∧ y.w.cell? ⟨bb, off + i * 4 + 1, none⟩ = some (.int .i64 x.y) ∧ y.w.cell? ⟨bb, off + i * 4 + 2, none⟩ = some (.int .i64 x.z) ∧ y.w.cell? ⟨bb, off + i * 4 + 3, none⟩ = some (.int .i64 x.n)) := fun y => ⟨cell_keep y.ok x0, cell_keep y.ok x1, cell_keep y.ok x2, cell_keep y.ok x3⟩
      haveI n1 : Nonempty (KW (fun W' => Below W8.heap.size W8 W')) := ⟨⟨W8, Below.refl _ _⟩⟩
      go_upto_region 8 with fail
      refine wp_region_tree (fun w' => ∃ y : KW (fun W' => Below W8.heap.size W8 W'), w' = y.w) 14 (.take 1 (.take 2 (.take 3 (.take 5 (.take 6 (.take 7 (.take 8 (.take 11 (.take 12 (.take 13 (.two 0 (.two 4 (.one 9 (.one 10 .done)) 9 (.one 4 (.one 10 .done))) 9 (.one 0 (.one 4 (.one 10 .done)))))))))))))) hmix (by kernel_rfl) (KW.mk' (Below.refl _ _).drew) ?_
      have HC := Lib.hid (show Below W8.heap.size W8 W8.drew from (Below.refl _ _).drew)
      generalize W8.drew = wz at *
      repeat (refine wpTree_take ?_; simp only [nthOp]; (first | go_big_quiet_step (fail) | quiet_step (fail)); refine wpQuiet_nil ?_)
      refine wpTree_two ?_ ?_
      ·skip
       simp only [nthOp]
       go_wp2_with fail
       have HAL := Lib.hid ((Below.refl wz.heap.size wz).alloc (Nat.le_refl _) (.cells #[] 60))
       have HO0 := Lib.hid (World.ownsRow_made (e := 60) (base := W8.heap.size) (size := 4) wz #[] 0 HC.out.size (by decide) (by simp))
       have HC := Lib.hid (HC.out.alloc HC.out.size (.cells #[] 60))
       refine One_mk (KW.mk' HC.out) ?_
       clear HAL
       generalize (wz.alloc (.cells #[] 60)) = wa at *
       generalize wz.heap.size = g0 at *
       refine wpTree_two ?_ ?_
       ·skip
        simp only [nthOp]
        have HTN := Lib.hid (cosNews (HTV.out.keep HC.out))
        go_wp2_with (at_builtin; refine wpList_append_rows cellsCo_len cellsCo_one (by decide) rfl _ _ 33 rfl W8.heap.size 60 i0 _ 32 Tryz.underlying33 hi0 hz0 hz1 hz2 rfl (by decide) (.slice (some ⟨g0, 0, none⟩) 0 0) 0 [] rfl HO0.out none P oc (by rw [HPL.out]; rfl) HTN.out (by have := HPL.out; omega) HC.out.size ?_; intro v' wb ho hg ha; obtain ⟨a4, c4, rfl, -, -⟩ := own_slice ho; have HO4 := Lib.hid (show wb.ownsRow W8.heap.size 60 4 (.slice a4 P.length c4) P.length (P.flatMap cellsCo) by simpa using ho); have HC := Lib.hid (below_grown HC.out hg HC.out.size fun k hk => (own_lt HO0.out hk).1); clear ho hg ha)
        refine One_mk (KW.mk' HC.out) ?_
        refine wpTree_one ?_
        simp only [nthOp]
        go_wp2_with fail
        have HAL := Lib.hid ((Below.refl wb.heap.size wb).alloc (Nat.le_refl _) (.cells #[.int .i64 x.x, .int .i64 x.y, .int .i64 x.z, .int .i64 x.n] 60))
        have HNX := Lib.hid (show NewX (wb.alloc (.cells #[.int .i64 x.x, .int .i64 x.y, .int .i64 x.z, .int .i64 x.n] 60)) (.slice a4 P.length c4) wb.heap.size (cellsCo x) from NewX.new (cellsCo x) 60 (fun j hj => (own_lt HO4.out hj).2))
        have HO4 := Lib.hid (own_keep HO4.out HAL.out)
        have HC := Lib.hid (HC.out.alloc HC.out.size (.cells #[.int .i64 x.x, .int .i64 x.y, .int .i64 x.z, .int .i64 x.n] 60))
        refine One_mk (KW.mk' HC.out) ?_
        clear HAL
        generalize (wb.alloc (.cells #[.int .i64 x.x, .int .i64 x.y, .int .i64 x.z, .int .i64 x.n] 60)) = wc at *
        generalize wb.heap.size = gx at *
        refine wpTree_one ?_
        simp only [nthOp]
        go_wp2_with (at_builtin; refine wpList_append_here _ rfl _ _ 33 rfl W8.heap.size 60 i0 (.agg #[.int .i64 0, .int .i64 0, .int .i64 0, .int .i64 0]) 4 32 Tryz.underlying33 hi0 hz0 hz1 hz2 rfl (by decide) (.slice a4 P.length c4) P.length (P.flatMap cellsCo) (by rw [HPL.out]; rfl) HO4.out ⟨gx, 0, none⟩ 1 1 (cellsCo x) rfl rfl HNX.out.c (cellsCo_one x) (by decide) (by have := HPL.out; simp only [maxLen]; omega) (by have := HPL.out; omega) HC.out.size ?_; intro v' wd ho hg ha; obtain ⟨a5, c5, rfl, -, -⟩ := own_slice ho; have HO5 := Lib.hid (show wd.ownsRow W8.heap.size 60 4 (.slice a5 (P.length + 1) c5) (P.length + 1) ((P ++ [x]).flatMap cellsCo) by rw [List.flatMap_append]; simpa using ho); have HC := Lib.hid (below_grown HC.out hg HC.out.size fun k hk => (own_lt HO4.out hk).1); clear ho hg ha)
        refine One_mk (KW.mk' HC.out) ?_
        refine wpTree_done ?_
        simp only [List.drop_succ_cons, List.drop_zero]
        have HDN := Lib.hid (cosNews (HDV.out.keep HC.out))
        go_wp2_with (at_builtin; refine wpList_append_rows cellsCo_len cellsCo_one (by decide) rfl _ _ 33 rfl W8.heap.size 60 i0 _ 32 Tryz.underlying33 hi0 hz0 hz1 hz2 rfl (by decide) (.slice a5 (P.length + 1) c5) (P.length + 1) ((P ++ [x]).flatMap cellsCo) rfl HO5.out none D (oc - m) (by rw [HDL.out]; rfl) HDN.out (by have := HPL.out; have := HDL.out; omega) HC.out.size ?_; intro v' wg ho hg ha; obtain ⟨a6, c6, rfl, -, -⟩ := own_slice ho; have HO6 := Lib.hid (show wg.ownsRow W8.heap.size 60 4 (.slice a6 (P.length + 1 + D.length) c6) (P.length + 1 + D.length) ((P ++ [x] ++ D).flatMap cellsCo) by rw [List.flatMap_append]; exact ho); have HC := Lib.hid (below_grown HC.out hg HC.out.size fun k hk => (own_lt HO5.out hk).1); clear ho hg ha)
        refine NP_mk ?_
        go_wp2_with fail
        go_roundw
        case rel => exact ⟨i + 1, P ++ [x] ++ D, by omega, by go_num, HLN, Lib.hid (by have := HPL.out; have := HDL.out; have := HLL.out; simp; omega), HLI2, by rw [show (P ++ [x] ++ D).length = P.length + 1 + D.length by simp; omega]; exact own_mono HO6.out HBW8.out.size, HBW8.out.trans (HC.out.mono HBW8.out.size)⟩
        case measure => first | (simp [intOf]; done) | (simp [intOf]; omega)
       ·skip
        simp only [nthOp]
        go_wp2_with fail
        have HAL := Lib.hid ((Below.refl wa.heap.size wa).alloc (Nat.le_refl _) (.cells #[.int .i64 x.x, .int .i64 x.y, .int .i64 x.z, .int .i64 x.n] 60))
        have HNX := Lib.hid (show NewX (wa.alloc (.cells #[.int .i64 x.x, .int .i64 x.y, .int .i64 x.z, .int .i64 x.n] 60)) (.slice (some ⟨g0, 0, none⟩) 0 0) wa.heap.size (cellsCo x) from NewX.new (cellsCo x) 60 (fun j hj => (own_lt HO0.out hj).2))
        have HO0 := Lib.hid (own_keep HO0.out HAL.out)
        have HC := Lib.hid (HC.out.alloc HC.out.size (.cells #[.int .i64 x.x, .int .i64 x.y, .int .i64 x.z, .int .i64 x.n] 60))
        refine One_mk (KW.mk' HC.out) ?_
        clear HAL
        generalize (wa.alloc (.cells #[.int .i64 x.x, .int .i64 x.y, .int .i64 x.z, .int .i64 x.n] 60)) = wb at *
        generalize wa.heap.size = gx at *
        refine wpTree_one ?_
        simp only [nthOp]
        have HTN := Lib.hid (cosNews (HTV.out.keep HC.out))
        go_wp2_with (at_builtin; refine wpList_append_rows cellsCo_len cellsCo_one (by decide) rfl _ _ 33 rfl W8.heap.size 60 i0 _ 32 Tryz.underlying33 hi0 hz0 hz1 hz2 rfl (by decide) (.slice (some ⟨g0, 0, none⟩) 0 0) 0 [] rfl HO0.out none P oc (by rw [HPL.out]; rfl) HTN.out (by have := HPL.out; omega) HC.out.size ?_; intro v' wc ho hg ha; obtain ⟨a4, c4, rfl, -, -⟩ := own_slice ho; have HO4 := Lib.hid (show wc.ownsRow W8.heap.size 60 4 (.slice a4 P.length c4) P.length (P.flatMap cellsCo) by simpa using ho); have HNX := Lib.hid (HNX.out.grown hg ha); have HC := Lib.hid (below_grown HC.out hg HC.out.size fun k hk => (own_lt HO0.out hk).1); clear ho hg ha)
        refine One_mk (KW.mk' HC.out) ?_
        refine wpTree_one ?_
        simp only [nthOp]
        go_wp2_with (at_builtin; refine wpList_append_here _ rfl _ _ 33 rfl W8.heap.size 60 i0 (.agg #[.int .i64 0, .int .i64 0, .int .i64 0, .int .i64 0]) 4 32 Tryz.underlying33 hi0 hz0 hz1 hz2 rfl (by decide) (.slice a4 P.length c4) P.length (P.flatMap cellsCo) (by rw [HPL.out]; rfl) HO4.out ⟨gx, 0, none⟩ 1 1 (cellsCo x) rfl rfl HNX.out.c (cellsCo_one x) (by decide) (by have := HPL.out; simp only [maxLen]; omega) (by have := HPL.out; omega) HC.out.size ?_; intro v' wd ho hg ha; obtain ⟨a5, c5, rfl, -, -⟩ := own_slice ho; have HO5 := Lib.hid (show wd.ownsRow W8.heap.size 60 4 (.slice a5 (P.length + 1) c5) (P.length + 1) ((P ++ [x]).flatMap cellsCo) by rw [List.flatMap_append]; simpa using ho); have HC := Lib.hid (below_grown HC.out hg HC.out.size fun k hk => (own_lt HO4.out hk).1); clear ho hg ha)
        refine One_mk (KW.mk' HC.out) ?_
        refine wpTree_done ?_
        simp only [List.drop_succ_cons, List.drop_zero]
        have HDN := Lib.hid (cosNews (HDV.out.keep HC.out))
        go_wp2_with (at_builtin; refine wpList_append_rows cellsCo_len cellsCo_one (by decide) rfl _ _ 33 rfl W8.heap.size 60 i0 _ 32 Tryz.underlying33 hi0 hz0 hz1 hz2 rfl (by decide) (.slice a5 (P.length + 1) c5) (P.length + 1) ((P ++ [x]).flatMap cellsCo) rfl HO5.out none D (oc - m) (by rw [HDL.out]; rfl) HDN.out (by have := HPL.out; have := HDL.out; omega) HC.out.size ?_; intro v' wg ho hg ha; obtain ⟨a6, c6, rfl, -, -⟩ := own_slice ho; have HO6 := Lib.hid (show wg.ownsRow W8.heap.size 60 4 (.slice a6 (P.length + 1 + D.length) c6) (P.length + 1 + D.length) ((P ++ [x] ++ D).flatMap cellsCo) by rw [List.flatMap_append]; exact ho); have HC := Lib.hid (below_grown HC.out hg HC.out.size fun k hk => (own_lt HO5.out hk).1); clear ho hg ha)
        refine NP_mk ?_
        go_wp2_with fail
        go_roundw
        case rel => exact ⟨i + 1, P ++ [x] ++ D, by omega, by go_num, HLN, Lib.hid (by have := HPL.out; have := HDL.out; have := HLL.out; simp; omega), HLI2, by rw [show (P ++ [x] ++ D).length = P.length + 1 + D.length by simp; omega]; exact own_mono HO6.out HBW8.out.size, HBW8.out.trans (HC.out.mono HBW8.out.size)⟩
        case measure => first | (simp [intOf]; done) | (simp [intOf]; omega)
      ·skip
       simp only [nthOp]
       go_wp2_with fail
       have HAL := Lib.hid ((Below.refl wz.heap.size wz).alloc (Nat.le_refl _) (.cells #[.int .i64 x.x, .int .i64 x.y, .int .i64 x.z, .int .i64 x.n] 60))
       have HNX := Lib.hid (show NewX (wz.alloc (.cells #[.int .i64 x.x, .int .i64 x.y, .int .i64 x.z, .int .i64 x.n] 60)) (.slice none 0 0) wz.heap.size (cellsCo x) from NewX.new (cellsCo x) 60 (fun j hj => by cases hj))
       have HC := Lib.hid (HC.out.alloc HC.out.size (.cells #[.int .i64 x.x, .int .i64 x.y, .int .i64 x.z, .int .i64 x.n] 60))
       refine One_mk (KW.mk' HC.out) ?_
       clear HAL
       generalize (wz.alloc (.cells #[.int .i64 x.x, .int .i64 x.y, .int .i64 x.z, .int .i64 x.n] 60)) = wa at *
       generalize wz.heap.size = gx at *
       refine wpTree_one ?_
       simp only [nthOp]
       go_wp2_with fail
       have HAL := Lib.hid ((Below.refl wa.heap.size wa).alloc (Nat.le_refl _) (.cells #[] 60))
       have HO0 := Lib.hid (World.ownsRow_made (e := 60) (base := W8.heap.size) (size := 4) wa #[] 0 HC.out.size (by decide) (by simp))
       have HNX := Lib.hid ((HNX.out.keep HAL.out).row (v' := .slice (some ⟨wa.heap.size, 0, none⟩) 0 0) (fun e => by injection e with e; have := HNX.out.l; simp only at e; omega))
       have HC := Lib.hid (HC.out.alloc HC.out.size (.cells #[] 60))
       refine One_mk (KW.mk' HC.out) ?_
       clear HAL
       generalize (wa.alloc (.cells #[] 60)) = wb at *
       generalize wa.heap.size = g0 at *
       refine wpTree_one ?_
       simp only [nthOp]
       have HTN := Lib.hid (cosNews (HTV.out.keep HC.out))
       go_wp2_with (at_builtin; refine wpList_append_rows cellsCo_len cellsCo_one (by decide) rfl _ _ 33 rfl W8.heap.size 60 i0 _ 32 Tryz.underlying33 hi0 hz0 hz1 hz2 rfl (by decide) (.slice (some ⟨g0, 0, none⟩) 0 0) 0 [] rfl HO0.out none P oc (by rw [HPL.out]; rfl) HTN.out (by have := HPL.out; omega) HC.out.size ?_; intro v' wc ho hg ha; obtain ⟨a4, c4, rfl, -, -⟩ := own_slice ho; have HO4 := Lib.hid (show wc.ownsRow W8.heap.size 60 4 (.slice a4 P.length c4) P.length (P.flatMap cellsCo) by simpa using ho); have HNX := Lib.hid (HNX.out.grown hg ha); have HC := Lib.hid (below_grown HC.out hg HC.out.size fun k hk => (own_lt HO0.out hk).1); clear ho hg ha)
       refine One_mk (KW.mk' HC.out) ?_
       refine wpTree_one ?_
       simp only [nthOp]
       go_wp2_with (at_builtin; refine wpList_append_here _ rfl _ _ 33 rfl W8.heap.size 60 i0 (.agg #[.int .i64 0, .int .i64 0, .int .i64 0, .int .i64 0]) 4 32 Tryz.underlying33 hi0 hz0 hz1 hz2 rfl (by decide) (.slice a4 P.length c4) P.length (P.flatMap cellsCo) (by rw [HPL.out]; rfl) HO4.out ⟨gx, 0, none⟩ 1 1 (cellsCo x) rfl rfl HNX.out.c (cellsCo_one x) (by decide) (by have := HPL.out; simp only [maxLen]; omega) (by have := HPL.out; omega) HC.out.size ?_; intro v' wd ho hg ha; obtain ⟨a5, c5, rfl, -, -⟩ := own_slice ho; have HO5 := Lib.hid (show wd.ownsRow W8.heap.size 60 4 (.slice a5 (P.length + 1) c5) (P.length + 1) ((P ++ [x]).flatMap cellsCo) by rw [List.flatMap_append]; simpa using ho); have HC := Lib.hid (below_grown HC.out hg HC.out.size fun k hk => (own_lt HO4.out hk).1); clear ho hg ha)
       refine One_mk (KW.mk' HC.out) ?_
       refine wpTree_done ?_
       simp only [List.drop_succ_cons, List.drop_zero]
       have HDN := Lib.hid (cosNews (HDV.out.keep HC.out))
       go_wp2_with (at_builtin; refine wpList_append_rows cellsCo_len cellsCo_one (by decide) rfl _ _ 33 rfl W8.heap.size 60 i0 _ 32 Tryz.underlying33 hi0 hz0 hz1 hz2 rfl (by decide) (.slice a5 (P.length + 1) c5) (P.length + 1) ((P ++ [x]).flatMap cellsCo) rfl HO5.out none D (oc - m) (by rw [HDL.out]; rfl) HDN.out (by have := HPL.out; have := HDL.out; omega) HC.out.size ?_; intro v' wg ho hg ha; obtain ⟨a6, c6, rfl, -, -⟩ := own_slice ho; have HO6 := Lib.hid (show wg.ownsRow W8.heap.size 60 4 (.slice a6 (P.length + 1 + D.length) c6) (P.length + 1 + D.length) ((P ++ [x] ++ D).flatMap cellsCo) by rw [List.flatMap_append]; exact ho); have HC := Lib.hid (below_grown HC.out hg HC.out.size fun k hk => (own_lt HO5.out hk).1); clear ho hg ha)
       refine NP_mk ?_
       go_wp2_with fail
       go_roundw
       case rel => exact ⟨i + 1, P ++ [x] ++ D, by omega, by go_num, HLN, Lib.hid (by have := HPL.out; have := HDL.out; have := HLL.out; simp; omega), HLI2, by rw [show (P ++ [x] ++ D).length = P.length + 1 + D.length by simp; omega]; exact own_mono HO6.out HBW8.out.size, HBW8.out.trans (HC.out.mono HBW8.out.size)⟩
       case measure => first | (simp [intOf]; done) | (simp [intOf]; omega)
     ·injection e0 with e1 e2 e3
      obtain ⟨ob, hob⟩ : ∃ ob, ob = og := ⟨_, rfl⟩
      obtain ⟨ooff, hoo⟩ : ∃ o : Nat, o = 0 := ⟨_, rfl⟩
      rw [← hoo, ← hob] at e1
      subst e1
      clear hob hoo e2 e3
      have x0 := cell_keep HB8.out HX.out.1
      have x1 := cell_keep HB8.out HX.out.2.1
      have x2 := cell_keep HB8.out HX.out.2.2.1
      have x3 := cell_keep HB8.out HX.out.2.2.2
      have HBW8 := Lib.hid (HB.out.trans (HB8.out.mono HB.out.size))
      have HOV8 := Lib.hid (HOV.out.keep HB8.out)
      obtain ⟨P, hP⟩ : ∃ P, P = L.take m := ⟨_, rfl⟩
      obtain ⟨D, hD⟩ : ∃ D, D = L.drop m := ⟨_, rfl⟩
      have HPL := Lib.hid (show P.length = m by rw [hP, List.length_take]; omega)
      have HDL := Lib.hid (show D.length = L.length - m by rw [hD, List.length_drop])
      have HTV := Lib.hid (show Cos.V W8 (some ⟨ob, ooff, none⟩) P by rw [hP]; exact RowV.take HOV8.out m)
      have HLN := Lib.hid (show P ++ [x] ++ D = sortB ltPb (cs.take (i + 1)) by
       rw [HTK.out, sortB_snoc, ← HL.out, hP, hD]
       unfold putB
       rw [(bins_atP ltPb x L L.length (Nat.le_refl _)).2, HNX0.out])
      have HLI2 := Lib.hid (show ∀ c ∈ P ++ [x] ++ D, c.in_ from fun c hc => by
       rw [hP, hD] at hc
       rcases List.mem_append.1 hc with hc | hc
       ·rcases List.mem_append.1 hc with hc | hc
        ·exact HLI.out c (List.mem_of_mem_take hc)
        ·rw [List.mem_singleton] at hc; subst hc; exact HXI.out
       ·exact HLI.out c (List.mem_of_mem_drop hc))
      have HDV := Lib.hid (show Cos.V W8 (if oc = m then some ⟨ob, ooff, none⟩ else some ⟨ob, ooff + m * 4, none⟩) D by
       rw [hD]
       split
       ·rename_i hcm
        rw [List.drop_of_length_le (by have := HOC.out.1; omega)]; exact RowV.nil
       ·exact RowV.drop HOV8.out m)
      have hmo : m ≤ oc := by have := HOC.out.1; omega
      have hml2 : m ≤ L.length := hml
      clear hP hD
      have kx0 : ∀ y : KW (fun W' => Below W8.heap.size W8 W'), (y.w.cell? ⟨bb, off + i * 4, none⟩ = some (.int .i64 x.x) ∧ y.w.cell? ⟨bb, off + i * 4 + 1, none⟩ = some (.int .i64 x.y) ∧ y.w.cell? ⟨bb, off + i * 4 + 2, none⟩ = some (.int .i64 x.z) ∧ y.w.cell? ⟨bb, off + i * 4 + 3, none⟩ = some (.int .i64 x.n)) := fun y => ⟨cell_keep y.ok x0, cell_keep y.ok x1, cell_keep y.ok x2, cell_keep y.ok x3⟩
      haveI n1 : Nonempty (KW (fun W' => Below W8.heap.size W8 W')) := ⟨⟨W8, Below.refl _ _⟩⟩
      go_upto_region 8 with fail
      refine wp_region_tree (fun w' => ∃ y : KW (fun W' => Below W8.heap.size W8 W'), w' = y.w) 14 (.take 1 (.take 2 (.take 3 (.take 5 (.take 6 (.take 7 (.take 8 (.take 11 (.take 12 (.take 13 (.two 0 (.two 4 (.one 9 (.one 10 .done)) 9 (.one 4 (.one 10 .done))) 9 (.one 0 (.one 4 (.one 10 .done)))))))))))))) hmix (by kernel_rfl) (KW.mk' (Below.refl _ _).drew) ?_
      have HC := Lib.hid (show Below W8.heap.size W8 W8.drew from (Below.refl _ _).drew)
      generalize W8.drew = wz at *
      repeat (refine wpTree_take ?_; simp only [nthOp]; (first | go_big_quiet_step (fail) | quiet_step (fail)); refine wpQuiet_nil ?_)
      generalize (if oc = m then (some ⟨ob, ooff, none⟩ : Option Addr) else some ⟨ob, ooff + m * 4, none⟩) = A2 at HDV ⊢
      refine wpTree_two ?_ ?_
      ·skip
       simp only [nthOp]
       go_wp2_with fail
       have HAL := Lib.hid ((Below.refl wz.heap.size wz).alloc (Nat.le_refl _) (.cells #[] 60))
       have HO0 := Lib.hid (World.ownsRow_made (e := 60) (base := W8.heap.size) (size := 4) wz #[] 0 HC.out.size (by decide) (by simp))
       have HC := Lib.hid (HC.out.alloc HC.out.size (.cells #[] 60))
       refine One_mk (KW.mk' HC.out) ?_
       clear HAL
       generalize (wz.alloc (.cells #[] 60)) = wa at *
       generalize wz.heap.size = g0 at *
       refine wpTree_two ?_ ?_
       ·skip
        simp only [nthOp]
        have HTN := Lib.hid (cosNews (HTV.out.keep HC.out))
        go_wp2_with (at_builtin; refine wpList_append_rows cellsCo_len cellsCo_one (by decide) rfl _ _ 33 rfl W8.heap.size 60 i0 _ 32 Tryz.underlying33 hi0 hz0 hz1 hz2 rfl (by decide) (.slice (some ⟨g0, 0, none⟩) 0 0) 0 [] rfl HO0.out (some ⟨ob, ooff, none⟩) P oc (by rw [HPL.out]; rfl) HTN.out (by have := HPL.out; omega) HC.out.size ?_; intro v' wb ho hg ha; obtain ⟨a4, c4, rfl, -, -⟩ := own_slice ho; have HO4 := Lib.hid (show wb.ownsRow W8.heap.size 60 4 (.slice a4 P.length c4) P.length (P.flatMap cellsCo) by simpa using ho); have HC := Lib.hid (below_grown HC.out hg HC.out.size fun k hk => (own_lt HO0.out hk).1); clear ho hg ha)
        refine One_mk (KW.mk' HC.out) ?_
        refine wpTree_one ?_
        simp only [nthOp]
        go_wp2_with fail
        have HAL := Lib.hid ((Below.refl wb.heap.size wb).alloc (Nat.le_refl _) (.cells #[.int .i64 x.x, .int .i64 x.y, .int .i64 x.z, .int .i64 x.n] 60))
        have HNX := Lib.hid (show NewX (wb.alloc (.cells #[.int .i64 x.x, .int .i64 x.y, .int .i64 x.z, .int .i64 x.n] 60)) (.slice a4 P.length c4) wb.heap.size (cellsCo x) from NewX.new (cellsCo x) 60 (fun j hj => (own_lt HO4.out hj).2))
        have HO4 := Lib.hid (own_keep HO4.out HAL.out)
        have HC := Lib.hid (HC.out.alloc HC.out.size (.cells #[.int .i64 x.x, .int .i64 x.y, .int .i64 x.z, .int .i64 x.n] 60))
        refine One_mk (KW.mk' HC.out) ?_
        clear HAL
        generalize (wb.alloc (.cells #[.int .i64 x.x, .int .i64 x.y, .int .i64 x.z, .int .i64 x.n] 60)) = wc at *
        generalize wb.heap.size = gx at *
        refine wpTree_one ?_
        simp only [nthOp]
        go_wp2_with (at_builtin; refine wpList_append_here _ rfl _ _ 33 rfl W8.heap.size 60 i0 (.agg #[.int .i64 0, .int .i64 0, .int .i64 0, .int .i64 0]) 4 32 Tryz.underlying33 hi0 hz0 hz1 hz2 rfl (by decide) (.slice a4 P.length c4) P.length (P.flatMap cellsCo) (by rw [HPL.out]; rfl) HO4.out ⟨gx, 0, none⟩ 1 1 (cellsCo x) rfl rfl HNX.out.c (cellsCo_one x) (by decide) (by have := HPL.out; simp only [maxLen]; omega) (by have := HPL.out; omega) HC.out.size ?_; intro v' wd ho hg ha; obtain ⟨a5, c5, rfl, -, -⟩ := own_slice ho; have HO5 := Lib.hid (show wd.ownsRow W8.heap.size 60 4 (.slice a5 (P.length + 1) c5) (P.length + 1) ((P ++ [x]).flatMap cellsCo) by rw [List.flatMap_append]; simpa using ho); have HC := Lib.hid (below_grown HC.out hg HC.out.size fun k hk => (own_lt HO4.out hk).1); clear ho hg ha)
        refine One_mk (KW.mk' HC.out) ?_
        refine wpTree_done ?_
        simp only [List.drop_succ_cons, List.drop_zero]
        have HDN := Lib.hid (cosNews (HDV.out.keep HC.out))
        go_wp2_with (at_builtin; refine wpList_append_rows cellsCo_len cellsCo_one (by decide) rfl _ _ 33 rfl W8.heap.size 60 i0 _ 32 Tryz.underlying33 hi0 hz0 hz1 hz2 rfl (by decide) (.slice a5 (P.length + 1) c5) (P.length + 1) ((P ++ [x]).flatMap cellsCo) rfl HO5.out A2 D (oc - m) (by rw [HDL.out]; rfl) HDN.out (by have := HPL.out; have := HDL.out; omega) HC.out.size ?_; intro v' wg ho hg ha; obtain ⟨a6, c6, rfl, -, -⟩ := own_slice ho; have HO6 := Lib.hid (show wg.ownsRow W8.heap.size 60 4 (.slice a6 (P.length + 1 + D.length) c6) (P.length + 1 + D.length) ((P ++ [x] ++ D).flatMap cellsCo) by rw [List.flatMap_append]; exact ho); have HC := Lib.hid (below_grown HC.out hg HC.out.size fun k hk => (own_lt HO5.out hk).1); clear ho hg ha)
        refine NP_mk ?_
        go_wp2_with fail
        go_roundw
        case rel => exact ⟨i + 1, P ++ [x] ++ D, by omega, by go_num, HLN, Lib.hid (by have := HPL.out; have := HDL.out; have := HLL.out; simp; omega), HLI2, by rw [show (P ++ [x] ++ D).length = P.length + 1 + D.length by simp; omega]; exact own_mono HO6.out HBW8.out.size, HBW8.out.trans (HC.out.mono HBW8.out.size)⟩
        case measure => first | (simp [intOf]; done) | (simp [intOf]; omega)
       ·skip
        simp only [nthOp]
        go_wp2_with fail
        have HAL := Lib.hid ((Below.refl wa.heap.size wa).alloc (Nat.le_refl _) (.cells #[.int .i64 x.x, .int .i64 x.y, .int .i64 x.z, .int .i64 x.n] 60))
        have HNX := Lib.hid (show NewX (wa.alloc (.cells #[.int .i64 x.x, .int .i64 x.y, .int .i64 x.z, .int .i64 x.n] 60)) (.slice (some ⟨g0, 0, none⟩) 0 0) wa.heap.size (cellsCo x) from NewX.new (cellsCo x) 60 (fun j hj => (own_lt HO0.out hj).2))
        have HO0 := Lib.hid (own_keep HO0.out HAL.out)
        have HC := Lib.hid (HC.out.alloc HC.out.size (.cells #[.int .i64 x.x, .int .i64 x.y, .int .i64 x.z, .int .i64 x.n] 60))
        refine One_mk (KW.mk' HC.out) ?_
        clear HAL
        generalize (wa.alloc (.cells #[.int .i64 x.x, .int .i64 x.y, .int .i64 x.z, .int .i64 x.n] 60)) = wb at *
        generalize wa.heap.size = gx at *
        refine wpTree_one ?_
        simp only [nthOp]
        have HTN := Lib.hid (cosNews (HTV.out.keep HC.out))
        go_wp2_with (at_builtin; refine wpList_append_rows cellsCo_len cellsCo_one (by decide) rfl _ _ 33 rfl W8.heap.size 60 i0 _ 32 Tryz.underlying33 hi0 hz0 hz1 hz2 rfl (by decide) (.slice (some ⟨g0, 0, none⟩) 0 0) 0 [] rfl HO0.out (some ⟨ob, ooff, none⟩) P oc (by rw [HPL.out]; rfl) HTN.out (by have := HPL.out; omega) HC.out.size ?_; intro v' wc ho hg ha; obtain ⟨a4, c4, rfl, -, -⟩ := own_slice ho; have HO4 := Lib.hid (show wc.ownsRow W8.heap.size 60 4 (.slice a4 P.length c4) P.length (P.flatMap cellsCo) by simpa using ho); have HNX := Lib.hid (HNX.out.grown hg ha); have HC := Lib.hid (below_grown HC.out hg HC.out.size fun k hk => (own_lt HO0.out hk).1); clear ho hg ha)
        refine One_mk (KW.mk' HC.out) ?_
        refine wpTree_one ?_
        simp only [nthOp]
        go_wp2_with (at_builtin; refine wpList_append_here _ rfl _ _ 33 rfl W8.heap.size 60 i0 (.agg #[.int .i64 0, .int .i64 0, .int .i64 0, .int .i64 0]) 4 32 Tryz.underlying33 hi0 hz0 hz1 hz2 rfl (by decide) (.slice a4 P.length c4) P.length (P.flatMap cellsCo) (by rw [HPL.out]; rfl) HO4.out ⟨gx, 0, none⟩ 1 1 (cellsCo x) rfl rfl HNX.out.c (cellsCo_one x) (by decide) (by have := HPL.out; simp only [maxLen]; omega) (by have := HPL.out; omega) HC.out.size ?_; intro v' wd ho hg ha; obtain ⟨a5, c5, rfl, -, -⟩ := own_slice ho; have HO5 := Lib.hid (show wd.ownsRow W8.heap.size 60 4 (.slice a5 (P.length + 1) c5) (P.length + 1) ((P ++ [x]).flatMap cellsCo) by rw [List.flatMap_append]; simpa using ho); have HC := Lib.hid (below_grown HC.out hg HC.out.size fun k hk => (own_lt HO4.out hk).1); clear ho hg ha)
        refine One_mk (KW.mk' HC.out) ?_
        refine wpTree_done ?_
        simp only [List.drop_succ_cons, List.drop_zero]
        have HDN := Lib.hid (cosNews (HDV.out.keep HC.out))
        go_wp2_with (at_builtin; refine wpList_append_rows cellsCo_len cellsCo_one (by decide) rfl _ _ 33 rfl W8.heap.size 60 i0 _ 32 Tryz.underlying33 hi0 hz0 hz1 hz2 rfl (by decide) (.slice a5 (P.length + 1) c5) (P.length + 1) ((P ++ [x]).flatMap cellsCo) rfl HO5.out A2 D (oc - m) (by rw [HDL.out]; rfl) HDN.out (by have := HPL.out; have := HDL.out; omega) HC.out.size ?_; intro v' wg ho hg ha; obtain ⟨a6, c6, rfl, -, -⟩ := own_slice ho; have HO6 := Lib.hid (show wg.ownsRow W8.heap.size 60 4 (.slice a6 (P.length + 1 + D.length) c6) (P.length + 1 + D.length) ((P ++ [x] ++ D).flatMap cellsCo) by rw [List.flatMap_append]; exact ho); have HC := Lib.hid (below_grown HC.out hg HC.out.size fun k hk => (own_lt HO5.out hk).1); clear ho hg ha)
        refine NP_mk ?_
        go_wp2_with fail
        go_roundw
        case rel => exact ⟨i + 1, P ++ [x] ++ D, by omega, by go_num, HLN, Lib.hid (by have := HPL.out; have := HDL.out; have := HLL.out; simp; omega), HLI2, by rw [show (P ++ [x] ++ D).length = P.length + 1 + D.length by simp; omega]; exact own_mono HO6.out HBW8.out.size, HBW8.out.trans (HC.out.mono HBW8.out.size)⟩
        case measure => first | (simp [intOf]; done) | (simp [intOf]; omega)
      ·skip
       simp only [nthOp]
       go_wp2_with fail
       have HAL := Lib.hid ((Below.refl wz.heap.size wz).alloc (Nat.le_refl _) (.cells #[.int .i64 x.x, .int .i64 x.y, .int .i64 x.z, .int .i64 x.n] 60))
       have HNX := Lib.hid (show NewX (wz.alloc (.cells #[.int .i64 x.x, .int .i64 x.y, .int .i64 x.z, .int .i64 x.n] 60)) (.slice none 0 0) wz.heap.size (cellsCo x) from NewX.new (cellsCo x) 60 (fun j hj => by cases hj))
       have HC := Lib.hid (HC.out.alloc HC.out.size (.cells #[.int .i64 x.x, .int .i64 x.y, .int .i64 x.z, .int .i64 x.n] 60))
       refine One_mk (KW.mk' HC.out) ?_
       clear HAL
       generalize (wz.alloc (.cells #[.int .i64 x.x, .int .i64 x.y, .int .i64 x.z, .int .i64 x.n] 60)) = wa at *
       generalize wz.heap.size = gx at *
       refine wpTree_one ?_
       simp only [nthOp]
       go_wp2_with fail
       have HAL := Lib.hid ((Below.refl wa.heap.size wa).alloc (Nat.le_refl _) (.cells #[] 60))
       have HO0 := Lib.hid (World.ownsRow_made (e := 60) (base := W8.heap.size) (size := 4) wa #[] 0 HC.out.size (by decide) (by simp))
       have HNX := Lib.hid ((HNX.out.keep HAL.out).row (v' := .slice (some ⟨wa.heap.size, 0, none⟩) 0 0) (fun e => by injection e with e; have := HNX.out.l; simp only at e; omega))
       have HC := Lib.hid (HC.out.alloc HC.out.size (.cells #[] 60))
       refine One_mk (KW.mk' HC.out) ?_
       clear HAL
       generalize (wa.alloc (.cells #[] 60)) = wb at *
       generalize wa.heap.size = g0 at *
       refine wpTree_one ?_
       simp only [nthOp]
       have HTN := Lib.hid (cosNews (HTV.out.keep HC.out))
       go_wp2_with (at_builtin; refine wpList_append_rows cellsCo_len cellsCo_one (by decide) rfl _ _ 33 rfl W8.heap.size 60 i0 _ 32 Tryz.underlying33 hi0 hz0 hz1 hz2 rfl (by decide) (.slice (some ⟨g0, 0, none⟩) 0 0) 0 [] rfl HO0.out (some ⟨ob, ooff, none⟩) P oc (by rw [HPL.out]; rfl) HTN.out (by have := HPL.out; omega) HC.out.size ?_; intro v' wc ho hg ha; obtain ⟨a4, c4, rfl, -, -⟩ := own_slice ho; have HO4 := Lib.hid (show wc.ownsRow W8.heap.size 60 4 (.slice a4 P.length c4) P.length (P.flatMap cellsCo) by simpa using ho); have HNX := Lib.hid (HNX.out.grown hg ha); have HC := Lib.hid (below_grown HC.out hg HC.out.size fun k hk => (own_lt HO0.out hk).1); clear ho hg ha)
       refine One_mk (KW.mk' HC.out) ?_
       refine wpTree_one ?_
       simp only [nthOp]
       go_wp2_with (at_builtin; refine wpList_append_here _ rfl _ _ 33 rfl W8.heap.size 60 i0 (.agg #[.int .i64 0, .int .i64 0, .int .i64 0, .int .i64 0]) 4 32 Tryz.underlying33 hi0 hz0 hz1 hz2 rfl (by decide) (.slice a4 P.length c4) P.length (P.flatMap cellsCo) (by rw [HPL.out]; rfl) HO4.out ⟨gx, 0, none⟩ 1 1 (cellsCo x) rfl rfl HNX.out.c (cellsCo_one x) (by decide) (by have := HPL.out; simp only [maxLen]; omega) (by have := HPL.out; omega) HC.out.size ?_; intro v' wd ho hg ha; obtain ⟨a5, c5, rfl, -, -⟩ := own_slice ho; have HO5 := Lib.hid (show wd.ownsRow W8.heap.size 60 4 (.slice a5 (P.length + 1) c5) (P.length + 1) ((P ++ [x]).flatMap cellsCo) by rw [List.flatMap_append]; simpa using ho); have HC := Lib.hid (below_grown HC.out hg HC.out.size fun k hk => (own_lt HO4.out hk).1); clear ho hg ha)
       refine One_mk (KW.mk' HC.out) ?_
       refine wpTree_done ?_
       simp only [List.drop_succ_cons, List.drop_zero]
       have HDN := Lib.hid (cosNews (HDV.out.keep HC.out))
       go_wp2_with (at_builtin; refine wpList_append_rows cellsCo_len cellsCo_one (by decide) rfl _ _ 33 rfl W8.heap.size 60 i0 _ 32 Tryz.underlying33 hi0 hz0 hz1 hz2 rfl (by decide) (.slice a5 (P.length + 1) c5) (P.length + 1) ((P ++ [x]).flatMap cellsCo) rfl HO5.out A2 D (oc - m) (by rw [HDL.out]; rfl) HDN.out (by have := HPL.out; have := HDL.out; omega) HC.out.size ?_; intro v' wg ho hg ha; obtain ⟨a6, c6, rfl, -, -⟩ := own_slice ho; have HO6 := Lib.hid (show wg.ownsRow W8.heap.size 60 4 (.slice a6 (P.length + 1 + D.length) c6) (P.length + 1 + D.length) ((P ++ [x] ++ D).flatMap cellsCo) by rw [List.flatMap_append]; exact ho); have HC := Lib.hid (below_grown HC.out hg HC.out.size fun k hk => (own_lt HO5.out hk).1); clear ho hg ha)
       refine NP_mk ?_
       go_wp2_with fail
       go_roundw
       case rel => exact ⟨i + 1, P ++ [x] ++ D, by omega, by go_num, HLN, Lib.hid (by have := HPL.out; have := HDL.out; have := HLL.out; simp; omega), HLI2, by rw [show (P ++ [x] ++ D).length = P.length + 1 + D.length by simp; omega]; exact own_mono HO6.out HBW8.out.size, HBW8.out.trans (HC.out.mono HBW8.out.size)⟩
       case measure => first | (simp [intOf]; done) | (simp [intOf]; omega)
  ·obtain rfl : i = cs.length := by omega
   have hki : ¬ ((cs.length : Nat) : Int) < ((cs.length : Nat) : Int) := by omega
   rw [List.take_length, ← HR.out] at HL
   have hL : L = R := HL.out
   subst hL
   go_wp2_with fail
   go_ret
   exact ⟨oa, oc, rfl, HO.out, HB.out⟩
end Go.Proofs.YtbhgkadklklmbaaGreat
