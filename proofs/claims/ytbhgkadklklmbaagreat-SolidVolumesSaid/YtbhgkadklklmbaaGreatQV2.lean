/- Whether a cell is a box, as the document says. -/
import Derived.Test.YtbhgkadklklmbaaGreatQX
import Derived.Test.YtbhgkadklklmbaaGreatQK
import Derived.Test.YtbhgkadklklmbaaGreatQM
import Derived.Test.YtbhgkadklklmbaaGreatQO
import Derived.Test.YtbhgkadklklmbaaGreatQV
import Derived.Test.YtbhgkadklklmbaaGreatUniq
import Derived.Test.YtbhgkadklklmbaaGreatQR
import Derived.Test.YtbhgkadklklmbaaGreatQT2
set_option linter.unusedVariables false
set_option linter.unusedSimpArgs false
namespace Go.Proofs.YtbhgkadklklmbaaGreat
open Go Go.RowKit Go.Sort Go.Lib

theorem absB_any (n : Int) (hn : -1000000000000 ≤ n ∧ n ≤ 1000000000000) (w : World) : Calls Tryz.prog 159 #[.int .i64 n] w fun e w' => e = .returned (.int .i64 ((n.natAbs : Nat) : Int)) ∧ Below w.heap.size w w' :=
 (absR_any n hn w).mono fun e w' h => ⟨h.1, by rw [← h.2]; exact Below.refl _ _⟩
set_option maxRecDepth 100000 in
set_option maxHeartbeats 8000000 in
theorem isBoxR_any (ps : List Pl) (pa : Option Addr) (pc : Nat) (w : World) (hg : Good ps) (hpl : ps.length ≤ 40) (hv : Pls.V w pa ps) :
    Calls Tryz.prog 102 #[.agg #[.slice pa ps.length pc]] w fun e w' => e = .returned (.bool ((nf ps).all unitB)) ∧ Below w.heap.size w w' := by
 have hmix : Tryz.prog.follows .mixedOrders = true := by kernel_rfl
 have HNR := Lib.hid (fun W (h : Below w.heap.size w W) => normalR2_any ps pa pc W hg hpl (hv.keep h))
 have HGN := Lib.hid (show ∀ p ∈ nf ps, p.in_ from fun p hp => (Good.nor hg (corn ps) p hp).1)
 have HNL := Lib.hid (show (nf ps).length ≤ 40 from Nat.le_trans (nor_len _ _) hpl)
 generalize nf ps = N at *
 obtain ⟨S, hS⟩ : ∃ S, S = N.all unitB := ⟨_, rfl⟩
 rw [← hS]
 have HS := Lib.hid hS
 clear hS
 go_enter Tryz.func102, Tryz.ntmps102
 go_upto_region 1 with fail
 refine gen_world (fun W => W.cell? ⟨w.heap.size, 0, none⟩ = some (.slice pa ps.length pc) ∧ Below w.heap.size w W) ⟨by simp [go_sem], by repeat (first | (with_reducible assumption) | exact Below.refl _ _ | (refine Below.setCell ?_ (by first | omega | (simp; omega) | (simp; done)) _) | (refine Below.alloc ?_ (by first | omega | (simp; omega) | (simp; done)) _) | (refine Below.drew ?_))⟩ ?_
 rintro W ⟨a0, hb⟩
 have HB1 := Lib.hid hb
 clear hb
 obtain ⟨gw, hgw⟩ : ∃ g, g = w.heap.size := ⟨_, rfl⟩
 rw [← hgw] at a0 ⊢
 clear hgw
 go_wp2_with (go_at_call 28; refine (HNR.out _ HB1.out).mono ?_; rintro e w2 ⟨na, nc, rfl, ho, hb⟩; have HNV := Lib.hid (ownPlV (fun c hc => Pl.in_.wf (HGN.out c hc)) ho); have HB2 := Lib.hid (HB1.out.trans (hb.mono HB1.out.size)); clear hb ho)
 go_loopw [4] (fun i wr => ∃ k : Nat, k ≤ N.length ∧ i = .int .i64 k ∧ Hid (N.all unitB = (N.drop k).all unitB) ∧ Below w2.heap.size w2 wr) (fun i _ => N.length - (intOf i).toNat)
 case atStart => exact ⟨0, Nat.zero_le _, rfl, Lib.hid (by simp), Below.refl _ _⟩
 case round =>
  obtain ⟨k, hk, rfl, HK, hb⟩ := hrel
  have HBW := Lib.hid hb
  clear hb
  have hnl := HNL.out
  by_cases hlt : k < N.length
  ·obtain ⟨b, off, rfl, hat⟩ := (HNV.out.keep HBW.out).at_ hlt
   obtain ⟨c0, c1, c2, c3, hw⟩ := hat
   have HD := Lib.hid (show (N.drop k).all unitB = (unitB N[k] && (N.drop (k + 1)).all unitB) by rw [List.drop_eq_getElem_cons hlt, List.all_cons])
   have HU := Lib.hid (show unitB N[k] = decide (((N[k].a.natAbs + N[k].b.natAbs + N[k].c.natAbs : Nat) : Int) = 1) from rfl)
   obtain ⟨⟨i1, i2, i3⟩, i4⟩ := HGN.out _ (List.getElem_mem hlt)
   simp only [nrm] at i1 i2 i3
   generalize N[k] = p at *
   have HA1 := Lib.hid (fun W => absB_any p.a (by omega) W)
   have HA2 := Lib.hid (fun W => absB_any p.b (by omega) W)
   have HA3 := Lib.hid (fun W => absB_any p.c (by omega) W)
   have v1 : IntKind.i64.wrap ((p.a.natAbs : Int) + (p.b.natAbs : Int)) = (p.a.natAbs : Int) + (p.b.natAbs : Int) := IntWalk.i64_in _ (by omega)
   have v2 : IntKind.i64.wrap ((p.a.natAbs : Int) + (p.b.natAbs : Int) + (p.c.natAbs : Int)) = (p.a.natAbs : Int) + (p.b.natAbs : Int) + (p.c.natAbs : Int) := IntWalk.i64_in _ (by omega)
   clear i1 i2 i3 i4 hw
   have hl0 := block_lt_of_cell c0
   simp only at hl0
   have hki : (k : Int) < (N.length : Int) := by omega
   go_upto_region 5 with fail
   refine wp_region_grew (by kernel_rfl) (by kernel_rfl) ?_
   repeat (first | go_big_quiet_step (fail) | quiet_step (fail))
   (first | go_big_quiet_step ((go_at_call 159; exact grew_of (HA1.out _))) | quiet_step ((go_at_call 159; exact grew_of (HA1.out _))))
   repeat (first | go_big_quiet_step (fail) | quiet_step (fail))
   (first | go_big_quiet_step ((go_at_call 159; exact grew_of (HA2.out _))) | quiet_step ((go_at_call 159; exact grew_of (HA2.out _))))
   repeat (first | go_big_quiet_step (fail) | quiet_step (fail))
   (first | go_big_quiet_step ((go_at_call 159; exact grew_of (HA3.out _))) | quiet_step ((go_at_call 159; exact grew_of (HA3.out _))))
   repeat (first | go_big_quiet_step (fail) | quiet_step (fail))
   refine wpQuiet_nil ?_
   rintro _ ⟨gg, rfl⟩
   have HB5 := Lib.hid (show Below w2.heap.size w2 (grew wr gg) from grewB HBW.out HBW.out.size _)
   generalize grew wr gg = w5 at *
   clear c0 c1 c2 c3 HA1 HA2 HA3
   cases hu : unitB p with
   | true =>
    have h1 : (p.a.natAbs : Int) + (p.b.natAbs : Int) + (p.c.natAbs : Int) = 1 := by have := HU.out; rw [hu] at this; have := of_decide_eq_true this.symm; omega
    have h2 : ((p.a.natAbs : Int) + (p.b.natAbs : Int) + (p.c.natAbs : Int) != 1) = false := by rw [h1]; rfl
    have HK2 := Lib.hid (show N.all unitB = (N.drop (k + 1)).all unitB by rw [HK.out, HD.out, hu, Bool.true_and])
    clear h1
    go_wp2_with fail
    go_round
    case rel => exact ⟨k + 1, by omega, by go_num, HK2, HB5.out⟩
    case measure => simp [intOf]; omega
   | false =>
    have h1 : (p.a.natAbs : Int) + (p.b.natAbs : Int) + (p.c.natAbs : Int) ≠ 1 := by have := HU.out; rw [hu] at this; have := of_decide_eq_false this.symm; omega
    have h2 : ((p.a.natAbs : Int) + (p.b.natAbs : Int) + (p.c.natAbs : Int) != 1) = true := by simpa using h1
    have HS2 := Lib.hid (show S = false by rw [HS.out, HK.out, HD.out, hu, Bool.false_and])
    go_wp2_with fail
    go_ret
    exact ⟨ret_bool HS2.out.symm, HB2.out.trans (HB5.out.mono HB2.out.size)⟩
  ·have hki : ¬ (k : Int) < (N.length : Int) := by omega
   have HS2 := Lib.hid (show S = true by rw [HS.out, HK.out, List.drop_of_length_le (by omega)]; rfl)
   go_wp2_with fail
   go_ret
   exact ⟨ret_bool HS2.out.symm, HB2.out.trans (HBW.out.mono HB2.out.size)⟩
end Go.Proofs.YtbhgkadklklmbaaGreat
/- The document's lines: the values of a row of ints, each once, in their order. -/
set_option linter.unusedVariables false
set_option linter.unusedSimpArgs false
namespace Go.Proofs.YtbhgkadklklmbaaGreat
open Go Go.RowKit Go.Sort Go.Lib

def cellsIn (z : Int) : List Value := [.int .i64 z]
theorem cellsIn_len (z : Int) : (cellsIn z).length = 1 := rfl
theorem cellsIn_one (z : Int) : ∀ v ∈ cellsIn z, v.oneCell' = true := by intro v hv; simp only [cellsIn, List.mem_singleton] at hv; subst hv; rfl
theorem flat_in (l : List Int) : l.flatMap cellsIn = l.map (Value.int .i64) := by
 induction l with
 | nil => rfl
 | cons x l ih => rw [List.flatMap_cons, ih]; rfl
def In.at (w : World) (b o : Nat) (z : Int) : Prop := w.cell? ⟨b, o, none⟩ = some (.int .i64 z)
def Ins.V (w : World) (a : Option Addr) (l : List Int) : Prop := RowV 1 In.at w a l
theorem Ins.V.keep {w w' : World} {a : Option Addr} {l : List Int} (h : Ins.V w a l) (hb : Below w.heap.size w w') : Ins.V w' a l := RowV.keep (fun _ _ _ h => cell_keep hb h) h
theorem ownIns {w : World} {base n c : Nat} {a : Option Addr} {l : List Int} (h : w.ownsRow base 3 1 (.slice a n c) n (l.flatMap cellsIn)) : Ins.V w a l :=
 own_rowV cellsIn_len (by decide) (fun b o x hx h => h 0 _ rfl) h
theorem insNews {w : World} {a : Option Addr} {l : List Int} (h : Ins.V w a l) : l ≠ [] → ∃ ad, a = some ad ∧ ∀ j u, (l.flatMap cellsIn)[j]? = some u → w.cell? (ad.add j) = some u := fun hne => by
 obtain ⟨b, off, rfl, _⟩ := h hne
 refine ⟨_, rfl, row_news cellsIn_len (by decide) (fun _ _ _ h c u hc => ?_) h⟩
 match c, hc with
 | 0, hc => simp [cellsIn] at hc; subst hc; exact h
 | c + 1, hc => simp [cellsIn] at hc
theorem ltI : AscO (fun _ : Int => True) (fun x y => decide (x < y)) :=
 ⟨fun a _ => by simp, fun a b c _ _ _ h1 h2 => by simp only [decide_eq_true_eq] at *; omega, fun a b _ _ => by simp only [decide_eq_true_eq]; omega⟩
theorem uniq_of {l zs : List Int} (h : l.Pairwise (· < ·)) (hm : ∀ z, z ∈ l ↔ z ∈ zs) : l = uniq zs :=
 asc_unique ltI (fun _ _ => trivial) (fun _ _ => trivial) (h.imp fun h => by simpa using h) ((uniq_asc zs).imp fun h => by simpa using h) fun z => by rw [hm, uniq_mem]
theorem ins_new {L : List Int} {x : Int} {m : Nat} (hm : m ≤ L.length) (h : L.Pairwise (· < ·)) (lo : ∀ j (hj : j < L.length), j < m → L[j] < x) (hi : ∀ (hj : m < L.length), x < L[m]) :
    (L.take m ++ [x] ++ L.drop m).Pairwise (· < ·) ∧ ∀ z, z ∈ L.take m ++ [x] ++ L.drop m ↔ z ∈ L ∨ z = x := by
 have h1 : ∀ z ∈ L.take m, z < x := fun z hz => by
  obtain ⟨j, hj, rfl⟩ := List.mem_iff_getElem.1 hz
  rw [List.length_take] at hj
  rw [List.getElem_take]
  exact lo j (by omega) (by omega)
 have h2 : ∀ z ∈ L.drop m, x < z := fun z hz => by
  by_cases hml : m < L.length
  ·rw [List.drop_eq_getElem_cons hml] at hz
   have h3 := hi hml
   rcases List.mem_cons.1 hz with rfl | hz
   ·exact h3
   ·have h4 : (L.drop m).Pairwise (· < ·) := h.drop
    rw [List.drop_eq_getElem_cons hml] at h4
    have := (List.pairwise_cons.1 h4).1 z hz
    omega
  ·rw [List.drop_of_length_le (by omega)] at hz; cases hz
 refine ⟨?_, fun z => ?_⟩
 ·rw [List.append_assoc, List.pairwise_append]
  refine ⟨h.take, ?_, fun a ha b hb => ?_⟩
  ·rw [List.singleton_append, List.pairwise_cons]; exact ⟨h2, h.drop⟩
  ·rcases List.mem_append.1 hb with hb | hb
   ·rw [List.mem_singleton] at hb; subst hb; exact h1 a ha
   ·have := h1 a ha; have := h2 b hb; omega
 ·have hd : z ∈ L ↔ z ∈ L.take m ∨ z ∈ L.drop m := by rw [← List.mem_append, List.take_append_drop]
  rw [hd]
  simp only [List.mem_append, List.mem_singleton]
  exact ⟨fun h => h.elim (fun h => h.elim (fun h => .inl (.inl h)) .inr) (fun h => .inl (.inr h)), fun h => h.elim (fun h => h.elim (fun h => .inl (.inl h)) .inr) (fun h => .inl (.inr h))⟩
theorem uniq_skip {zs : List Int} {x : Int} {i : Nat} {L : List Int} (hL : L = uniq (zs.take i)) (ht : zs.take (i + 1) = zs.take i ++ [x]) (hx : x ∈ L) : L = uniq (zs.take (i + 1)) := by
 refine uniq_of (by rw [hL]; exact uniq_asc _) fun z => ?_
 rw [ht, List.mem_append, List.mem_singleton, hL, uniq_mem]
 refine ⟨.inl, fun h => h.elim id fun h => ?_⟩
 rw [hL, uniq_mem] at hx
 rw [h]; exact hx
set_option maxRecDepth 100000 in
set_option maxHeartbeats 16000000 in
theorem lines_any (zs : List Int) (ca : Option Addr) (cc : Nat) (w : World) (hv : Ins.V w ca zs) (hl : zs.length ≤ 400000) :
    Calls Tryz.prog 103 #[.slice ca zs.length cc] w fun e w' => ∃ a c, e = .returned (.slice a (uniq zs).length c) ∧ w'.ownsRow w.heap.size 3 1 (.slice a (uniq zs).length c) (uniq zs).length ((uniq zs).flatMap cellsIn) ∧ Below w.heap.size w w' := by
 have hmix : Tryz.prog.follows .mixedOrders = true := by kernel_rfl
 obtain ⟨i0, hi0, hz0, hz1, hz2⟩ := info_parts intInfo
 obtain ⟨R, hR⟩ : ∃ R, R = uniq zs := ⟨_, rfl⟩
 rw [← hR]
 have HR := Lib.hid hR
 have HV := Lib.hid hv
 clear hv hR
 go_enter Tryz.func103, Tryz.ntmps103
 go_wp2_with fail
 go_loopw [3, 4] (fun ov iv wr => ∃ (i : Nat) (L : List Int), i ≤ zs.length ∧ iv = .int .i64 (i : Int) ∧ Hid (L = uniq (zs.take i)) ∧ Hid (L.length ≤ i) ∧ wr.ownsRow w.heap.size 3 1 ov L.length (L.flatMap cellsIn) ∧ Below w.heap.size w wr) (fun _ iv _ => zs.length - (intOf iv).toNat)
 case atStart => exact ⟨0, [], Nat.zero_le _, rfl, Lib.hid (uniq_of List.Pairwise.nil (fun z => by simp)), Lib.hid (Nat.le_refl _), ⟨rfl, .inl ⟨rfl, rfl⟩⟩, Below.refl _ _⟩
 case round =>
  obtain ⟨i, L, hi, rfl, HL, HLL, hown, hb⟩ := hrel
  obtain ⟨W1, rfl⟩ : ∃ W1 : World, W1 = wr := ⟨_, rfl⟩
  have HO := Lib.hid hown
  have HB := Lib.hid hb
  obtain ⟨oa, oc, rfl, hoc, hom⟩ := own_slice hown
  have HOC := Lib.hid (And.intro hoc hom)
  have HVW := Lib.hid (HV.out.keep hb)
  have hlb : L.length ≤ 400000 := by have := HLL.out; omega
  have HASC := Lib.hid (show L.Pairwise (· < ·) by rw [HL.out]; exact uniq_asc _)
  clear hown hb hoc hom
  by_cases hlt : i < zs.length
  ·have hki : (i : Int) < (zs.length : Int) := by omega
   obtain ⟨bb, off, rfl, hat⟩ := HVW.out.at_ hlt
   rw [Nat.mul_one] at hat
   have HTK := Lib.hid (show zs.take (i + 1) = zs.take i ++ [zs[i]] from List.take_succ_eq_append_getElem hlt)
   have HSK := Lib.hid (fun h => uniq_skip HL.out HTK.out h)
   generalize zs[i] = x at *
   have HX := Lib.hid (show W1.cell? ⟨bb, off + i, none⟩ = some (.int .i64 x) from hat)
   have HOV := Lib.hid (ownIns HO.out)
   clear hat
   go_wp2_with fail
   go_loopw [5] (fun av wq => ∃ n : Nat, n ≤ L.length ∧ av = .int .i64 (n : Int) ∧ Hid (∀ j (hj : j < L.length), j < n → L[j] < x) ∧ Below W1.heap.size W1 wq) (fun av _ => L.length - (intOf av).toNat)
   case atStart => exact ⟨0, Nat.zero_le _, rfl, Lib.hid (fun j _ h => by omega), Below.refl _ _⟩
   case round =>
    obtain ⟨n, hn, rfl, HN, hb⟩ := hrel
    have HB2 := Lib.hid hb
    have x0 := cell_keep hb HX.out
    have hlx := block_lt_of_cell x0
    simp only at hlx
    by_cases hnl : n < L.length
    ·have hki0 : (n : Int) < (L.length : Int) := by omega
     obtain ⟨ob, ooff, rfl, hat⟩ := (HOV.out.keep hb).at_ hnl
     rw [Nat.mul_one] at hat
     have y0 : wr.cell? ⟨ob, ooff + n, none⟩ = some (.int .i64 L[n]) := hat
     have HMEM := Lib.hid (show L[n] ∈ L from List.getElem_mem hnl)
     have HSTEP := Lib.hid (show L[n] < x → ∀ j (hj : j < L.length), j < n + 1 → L[j] < x from fun h j hj hjn => by
      by_cases hjn2 : j < n
      ·exact HN.out j hj hjn2
      ·have : j = n := by omega
       subst this; exact h)
     have HHIB := Lib.hid (show x < L[n] → ∀ (hj : n < L.length), x < L[n] from fun h _ => h)
     have hly := block_lt_of_cell y0
     simp only at hly
     clear hat hb
     obtain ⟨y, hy⟩ : ∃ y, y = L[n] := ⟨_, rfl⟩
     rw [← hy] at y0 HMEM HSTEP
     have HY := Lib.hid hy
     clear hy
     by_cases hyx : y < x
     ·have hk1 : decide (y < x) = true := decide_eq_true hyx
      go_upto_region 6 with fail
      refine wp_region_grew (by kernel_rfl) (by kernel_rfl) ?_
      repeat (first | go_big_quiet_step (fail) | quiet_step (fail))
      refine wpQuiet_nil ?_
      rintro _ ⟨gg, rfl⟩
      have HFB := Lib.hid (show Below W1.heap.size W1 (grew wr gg) from grewB HB2.out HB2.out.size _)
      go_wp2_with fail
      go_roundw
      case rel => exact ⟨n + 1, by omega, by go_num, Lib.hid (HSTEP.out hyx), HFB.out⟩
      case measure => first | (simp [intOf]; done) | (simp [intOf]; omega)
     ·have hk1 : decide (y < x) = false := decide_eq_false hyx
      go_upto_region 6 with fail
      refine wp_region_grew (by kernel_rfl) (by kernel_rfl) ?_
      repeat (first | go_big_quiet_step (fail) | quiet_step (fail))
      refine wpQuiet_nil ?_
      rintro _ ⟨gg, rfl⟩
      have HFB := Lib.hid (show Below W1.heap.size W1 (grew wr gg) from grewB HB2.out HB2.out.size _)
      generalize grew wr gg = W6 at HFB ⊢
      have x0 := cell_keep HFB.out HX.out
      have y0 : W6.cell? ⟨ob, ooff + n, none⟩ = some (.int .i64 y) := by
       have h := ((HOV.out.keep HFB.out).at_ hnl)
       obtain ⟨ob', oo', e, hat⟩ := h
       injection e with e
       injection e with e1 e2
       subst e1 e2
       rw [Nat.mul_one] at hat
       rw [HY.out]; exact hat
      have hlx := block_lt_of_cell x0
      have hly := block_lt_of_cell y0
      simp only at hlx hly
      by_cases hxe : y = x
      ·have hk2 : (y != x) = false := by simpa using hxe
       have HNE := Lib.hid (HSK.out (by rw [← hxe]; exact HMEM.out))
       clear hk1 HSTEP HHIB
       have hne0 : ((n : Int) == (L.length : Int)) = false := by simp; omega
       go_upto_region 8 with fail
       refine wp_region_grew (by kernel_rfl) (by kernel_rfl) ?_
       repeat (first | go_big_quiet_step (fail) | quiet_step (fail))
       refine wpQuiet_nil ?_
       rintro _ ⟨gg, rfl⟩
       have HF8 := Lib.hid (show Below W1.heap.size W1 (grew W6 gg) from grewB HFB.out HFB.out.size _)
       have HO8 := Lib.hid (own_keep HO.out HF8.out)
       have HB8 := Lib.hid (HB.out.trans (HF8.out.mono HB.out.size))
       go_wp2_with fail
       go_roundw
       case rel => exact ⟨i + 1, L, by omega, by go_num, HNE, Lib.hid (by have := HLL.out; omega), HO8.out, HB8.out⟩
       case measure => first | (simp [intOf]; done) | (simp [intOf]; omega)
      ·have hk2 : (y != x) = true := by simpa using hxe
       have hne0 : ((n : Int) == (L.length : Int)) = false := by simp; omega
       have HLO := HN
       have HHI := Lib.hid (show ∀ (hj : n < L.length), x < L[n] from fun hj => by rw [← HY.out]; omega)
       clear HN
       go_upto_region 8 with fail
       refine wp_region_grew (by kernel_rfl) (by kernel_rfl) ?_
       repeat (first | go_big_quiet_step (fail) | quiet_step (fail))
       refine wpQuiet_nil ?_
       rintro _ ⟨gg, rfl⟩
       have HB8 := Lib.hid (show Below W1.heap.size W1 (grew W6 gg) from grewB HFB.out HFB.out.size _)
       generalize grew W6 gg = W8 at HB8 ⊢
       clear x0 y0 hlx hly HFB hk1 hk2 hne0 HSTEP HHIB HMEM hki0 hxe hyx HY
       have hml : n ≤ L.length := by omega
       clear hnl
       generalize n = m at *
       have x0 := cell_keep HB8.out HX.out
       have HBW8 := Lib.hid (HB.out.trans (HB8.out.mono HB.out.size))
       have HOV8 := Lib.hid (HOV.out.keep HB8.out)
       have HNW := Lib.hid (ins_new (L := L) (x := x) (m := m) hml HASC.out HLO.out HHI.out)
       obtain ⟨P, hP⟩ : ∃ P, P = L.take m := ⟨_, rfl⟩
       obtain ⟨D, hD⟩ : ∃ D, D = L.drop m := ⟨_, rfl⟩
       have HPL := Lib.hid (show P.length = m by rw [hP, List.length_take]; omega)
       have HDL := Lib.hid (show D.length = L.length - m by rw [hD, List.length_drop])
       have HTV := Lib.hid (show Ins.V W8 (some ⟨ob, ooff, none⟩) P by rw [hP]; exact RowV.take HOV8.out m)
       have HLN := Lib.hid (show P ++ [x] ++ D = uniq (zs.take (i + 1)) by
        rw [hP, hD]
        refine uniq_of HNW.out.1 fun z => ?_
        rw [HNW.out.2 z, HTK.out, List.mem_append, List.mem_singleton, HL.out, uniq_mem])
       have HDV := Lib.hid (show Ins.V W8 (if oc = m then some ⟨ob, ooff, none⟩ else some ⟨ob, ooff + m, none⟩) D by
        rw [hD]
        split
        ·rename_i hcm
         rw [List.drop_of_length_le (by have := HOC.out.1; omega)]; exact RowV.nil
        ·have h := RowV.drop HOV8.out m
         rw [Nat.mul_one] at h
         exact h)
       have hmo : m ≤ oc := by have := HOC.out.1; omega
       have hml2 : m ≤ L.length := hml
       clear hP hD
       have kx0 : ∀ y : KW (fun W' => Below W8.heap.size W8 W'), (y.w.cell? ⟨bb, off + i, none⟩ = some (.int .i64 x)) := fun y => cell_keep y.ok x0
       haveI n1 : Nonempty (KW (fun W' => Below W8.heap.size W8 W')) := ⟨⟨W8, Below.refl _ _⟩⟩
       go_upto_region 9 with fail
       refine wp_region_tree (fun w' => ∃ y : KW (fun W' => Below W8.heap.size W8 W'), w' = y.w) 14 (.take 1 (.take 2 (.take 3 (.take 5 (.take 6 (.take 7 (.take 8 (.take 11 (.take 12 (.take 13 (.two 0 (.two 4 (.one 9 (.one 10 .done)) 9 (.one 4 (.one 10 .done))) 9 (.one 0 (.one 4 (.one 10 .done)))))))))))))) hmix (by kernel_rfl) (KW.mk' (Below.refl _ _).drew) ?_
       have HC := Lib.hid (show Below W8.heap.size W8 W8.drew from (Below.refl _ _).drew)
       generalize W8.drew = wz at *
       repeat (refine wpTree_take ?_; simp only [nthOp]; (first | go_big_quiet_step (fail) | quiet_step (fail)); refine wpQuiet_nil ?_)
       generalize (if oc = m then (some ⟨ob, ooff, none⟩ : Option Addr) else some ⟨ob, ooff + m, none⟩) = A2 at HDV ⊢
       refine wpTree_two ?_ ?_
       ·skip
        simp only [nthOp]
        go_wp2_with fail
        have HAL := Lib.hid ((Below.refl wz.heap.size wz).alloc (Nat.le_refl _) (.cells #[] 3))
        have HO0 := Lib.hid (World.ownsRow_made (e := 3) (base := W8.heap.size) (size := 1) wz #[] 0 HC.out.size (by decide) (by simp))
        have HC := Lib.hid (HC.out.alloc HC.out.size (.cells #[] 3))
        refine One_mk (KW.mk' HC.out) ?_
        clear HAL
        generalize (wz.alloc (.cells #[] 3)) = wa at *
        generalize wz.heap.size = g0 at *
        refine wpTree_two ?_ ?_
        ·skip
         simp only [nthOp]
         have HTN := Lib.hid (insNews (HTV.out.keep HC.out))
         go_wp2_with (at_builtin; refine wpList_append_rows cellsIn_len cellsIn_one (by decide) rfl _ _ 147 rfl W8.heap.size 3 i0 _ 8 Tryz.underlying147 hi0 hz0 hz1 hz2 rfl (by decide) (.slice (some ⟨g0, 0, none⟩) 0 0) 0 [] rfl HO0.out (some ⟨ob, ooff, none⟩) P oc (by rw [HPL.out]; rfl) HTN.out (by have := HPL.out; omega) HC.out.size ?_; intro v' wb ho hg ha; obtain ⟨a4, c4, rfl, -, -⟩ := own_slice ho; have HO4 := Lib.hid (show wb.ownsRow W8.heap.size 3 1 (.slice a4 P.length c4) P.length (P.flatMap cellsIn) by simpa using ho); have HC := Lib.hid (below_grown HC.out hg HC.out.size fun k hk => (own_lt HO0.out hk).1); clear ho hg ha)
         refine One_mk (KW.mk' HC.out) ?_
         refine wpTree_one ?_
         simp only [nthOp]
         go_wp2_with fail
         have HAL := Lib.hid ((Below.refl wb.heap.size wb).alloc (Nat.le_refl _) (.cells #[.int .i64 x] 3))
         have HNX := Lib.hid (show NewX (wb.alloc (.cells #[.int .i64 x] 3)) (.slice a4 P.length c4) wb.heap.size (cellsIn x) from NewX.new (cellsIn x) 3 (fun j hj => (own_lt HO4.out hj).2))
         have HO4 := Lib.hid (own_keep HO4.out HAL.out)
         have HC := Lib.hid (HC.out.alloc HC.out.size (.cells #[.int .i64 x] 3))
         refine One_mk (KW.mk' HC.out) ?_
         clear HAL
         generalize (wb.alloc (.cells #[.int .i64 x] 3)) = wc at *
         generalize wb.heap.size = gx at *
         refine wpTree_one ?_
         simp only [nthOp]
         go_wp2_with (at_builtin; refine wpList_append_here _ rfl _ _ 147 rfl W8.heap.size 3 i0 (.int .i64 0) 1 8 Tryz.underlying147 hi0 hz0 hz1 hz2 rfl (by decide) (.slice a4 P.length c4) P.length (P.flatMap cellsIn) (by rw [HPL.out]; rfl) HO4.out ⟨gx, 0, none⟩ 1 1 (cellsIn x) rfl rfl HNX.out.c (cellsIn_one x) (by decide) (by have := HPL.out; simp only [maxLen]; omega) (by have := HPL.out; omega) HC.out.size ?_; intro v' wd ho hg ha; obtain ⟨a5, c5, rfl, -, -⟩ := own_slice ho; have HO5 := Lib.hid (show wd.ownsRow W8.heap.size 3 1 (.slice a5 (P.length + 1) c5) (P.length + 1) ((P ++ [x]).flatMap cellsIn) by rw [List.flatMap_append]; simpa using ho); have HC := Lib.hid (below_grown HC.out hg HC.out.size fun k hk => (own_lt HO4.out hk).1); clear ho hg ha)
         refine One_mk (KW.mk' HC.out) ?_
         refine wpTree_done ?_
         simp only [List.drop_succ_cons, List.drop_zero]
         have HDN := Lib.hid (insNews (HDV.out.keep HC.out))
         go_wp2_with (at_builtin; refine wpList_append_rows cellsIn_len cellsIn_one (by decide) rfl _ _ 147 rfl W8.heap.size 3 i0 _ 8 Tryz.underlying147 hi0 hz0 hz1 hz2 rfl (by decide) (.slice a5 (P.length + 1) c5) (P.length + 1) ((P ++ [x]).flatMap cellsIn) rfl HO5.out A2 D (oc - m) (by rw [HDL.out]; rfl) HDN.out (by have := HPL.out; have := HDL.out; omega) HC.out.size ?_; intro v' wg ho hg ha; obtain ⟨a6, c6, rfl, -, -⟩ := own_slice ho; have HO6 := Lib.hid (show wg.ownsRow W8.heap.size 3 1 (.slice a6 (P.length + 1 + D.length) c6) (P.length + 1 + D.length) ((P ++ [x] ++ D).flatMap cellsIn) by rw [List.flatMap_append]; exact ho); have HC := Lib.hid (below_grown HC.out hg HC.out.size fun k hk => (own_lt HO5.out hk).1); clear ho hg ha)
         refine NP_mk ?_
         go_wp2_with fail
         go_roundw
         case rel => exact ⟨i + 1, P ++ [x] ++ D, by omega, by go_num, HLN, Lib.hid (by have := HPL.out; have := HDL.out; have := HLL.out; simp; omega), by rw [show (P ++ [x] ++ D).length = P.length + 1 + D.length by simp; omega]; exact own_mono HO6.out HBW8.out.size, HBW8.out.trans (HC.out.mono HBW8.out.size)⟩
         case measure => first | (simp [intOf]; done) | (simp [intOf]; omega)
        ·skip
         simp only [nthOp]
         go_wp2_with fail
         have HAL := Lib.hid ((Below.refl wa.heap.size wa).alloc (Nat.le_refl _) (.cells #[.int .i64 x] 3))
         have HNX := Lib.hid (show NewX (wa.alloc (.cells #[.int .i64 x] 3)) (.slice (some ⟨g0, 0, none⟩) 0 0) wa.heap.size (cellsIn x) from NewX.new (cellsIn x) 3 (fun j hj => (own_lt HO0.out hj).2))
         have HO0 := Lib.hid (own_keep HO0.out HAL.out)
         have HC := Lib.hid (HC.out.alloc HC.out.size (.cells #[.int .i64 x] 3))
         refine One_mk (KW.mk' HC.out) ?_
         clear HAL
         generalize (wa.alloc (.cells #[.int .i64 x] 3)) = wb at *
         generalize wa.heap.size = gx at *
         refine wpTree_one ?_
         simp only [nthOp]
         have HTN := Lib.hid (insNews (HTV.out.keep HC.out))
         go_wp2_with (at_builtin; refine wpList_append_rows cellsIn_len cellsIn_one (by decide) rfl _ _ 147 rfl W8.heap.size 3 i0 _ 8 Tryz.underlying147 hi0 hz0 hz1 hz2 rfl (by decide) (.slice (some ⟨g0, 0, none⟩) 0 0) 0 [] rfl HO0.out (some ⟨ob, ooff, none⟩) P oc (by rw [HPL.out]; rfl) HTN.out (by have := HPL.out; omega) HC.out.size ?_; intro v' wc ho hg ha; obtain ⟨a4, c4, rfl, -, -⟩ := own_slice ho; have HO4 := Lib.hid (show wc.ownsRow W8.heap.size 3 1 (.slice a4 P.length c4) P.length (P.flatMap cellsIn) by simpa using ho); have HNX := Lib.hid (HNX.out.grown hg ha); have HC := Lib.hid (below_grown HC.out hg HC.out.size fun k hk => (own_lt HO0.out hk).1); clear ho hg ha)
         refine One_mk (KW.mk' HC.out) ?_
         refine wpTree_one ?_
         simp only [nthOp]
         go_wp2_with (at_builtin; refine wpList_append_here _ rfl _ _ 147 rfl W8.heap.size 3 i0 (.int .i64 0) 1 8 Tryz.underlying147 hi0 hz0 hz1 hz2 rfl (by decide) (.slice a4 P.length c4) P.length (P.flatMap cellsIn) (by rw [HPL.out]; rfl) HO4.out ⟨gx, 0, none⟩ 1 1 (cellsIn x) rfl rfl HNX.out.c (cellsIn_one x) (by decide) (by have := HPL.out; simp only [maxLen]; omega) (by have := HPL.out; omega) HC.out.size ?_; intro v' wd ho hg ha; obtain ⟨a5, c5, rfl, -, -⟩ := own_slice ho; have HO5 := Lib.hid (show wd.ownsRow W8.heap.size 3 1 (.slice a5 (P.length + 1) c5) (P.length + 1) ((P ++ [x]).flatMap cellsIn) by rw [List.flatMap_append]; simpa using ho); have HC := Lib.hid (below_grown HC.out hg HC.out.size fun k hk => (own_lt HO4.out hk).1); clear ho hg ha)
         refine One_mk (KW.mk' HC.out) ?_
         refine wpTree_done ?_
         simp only [List.drop_succ_cons, List.drop_zero]
         have HDN := Lib.hid (insNews (HDV.out.keep HC.out))
         go_wp2_with (at_builtin; refine wpList_append_rows cellsIn_len cellsIn_one (by decide) rfl _ _ 147 rfl W8.heap.size 3 i0 _ 8 Tryz.underlying147 hi0 hz0 hz1 hz2 rfl (by decide) (.slice a5 (P.length + 1) c5) (P.length + 1) ((P ++ [x]).flatMap cellsIn) rfl HO5.out A2 D (oc - m) (by rw [HDL.out]; rfl) HDN.out (by have := HPL.out; have := HDL.out; omega) HC.out.size ?_; intro v' wg ho hg ha; obtain ⟨a6, c6, rfl, -, -⟩ := own_slice ho; have HO6 := Lib.hid (show wg.ownsRow W8.heap.size 3 1 (.slice a6 (P.length + 1 + D.length) c6) (P.length + 1 + D.length) ((P ++ [x] ++ D).flatMap cellsIn) by rw [List.flatMap_append]; exact ho); have HC := Lib.hid (below_grown HC.out hg HC.out.size fun k hk => (own_lt HO5.out hk).1); clear ho hg ha)
         refine NP_mk ?_
         go_wp2_with fail
         go_roundw
         case rel => exact ⟨i + 1, P ++ [x] ++ D, by omega, by go_num, HLN, Lib.hid (by have := HPL.out; have := HDL.out; have := HLL.out; simp; omega), by rw [show (P ++ [x] ++ D).length = P.length + 1 + D.length by simp; omega]; exact own_mono HO6.out HBW8.out.size, HBW8.out.trans (HC.out.mono HBW8.out.size)⟩
         case measure => first | (simp [intOf]; done) | (simp [intOf]; omega)
       ·skip
        simp only [nthOp]
        go_wp2_with fail
        have HAL := Lib.hid ((Below.refl wz.heap.size wz).alloc (Nat.le_refl _) (.cells #[.int .i64 x] 3))
        have HNX := Lib.hid (show NewX (wz.alloc (.cells #[.int .i64 x] 3)) (.slice none 0 0) wz.heap.size (cellsIn x) from NewX.new (cellsIn x) 3 (fun j hj => by cases hj))
        have HC := Lib.hid (HC.out.alloc HC.out.size (.cells #[.int .i64 x] 3))
        refine One_mk (KW.mk' HC.out) ?_
        clear HAL
        generalize (wz.alloc (.cells #[.int .i64 x] 3)) = wa at *
        generalize wz.heap.size = gx at *
        refine wpTree_one ?_
        simp only [nthOp]
        go_wp2_with fail
        have HAL := Lib.hid ((Below.refl wa.heap.size wa).alloc (Nat.le_refl _) (.cells #[] 3))
        have HO0 := Lib.hid (World.ownsRow_made (e := 3) (base := W8.heap.size) (size := 1) wa #[] 0 HC.out.size (by decide) (by simp))
        have HNX := Lib.hid ((HNX.out.keep HAL.out).row (v' := .slice (some ⟨wa.heap.size, 0, none⟩) 0 0) (fun e => by injection e with e; have := HNX.out.l; simp only at e; omega))
        have HC := Lib.hid (HC.out.alloc HC.out.size (.cells #[] 3))
        refine One_mk (KW.mk' HC.out) ?_
        clear HAL
        generalize (wa.alloc (.cells #[] 3)) = wb at *
        generalize wa.heap.size = g0 at *
        refine wpTree_one ?_
        simp only [nthOp]
        have HTN := Lib.hid (insNews (HTV.out.keep HC.out))
        go_wp2_with (at_builtin; refine wpList_append_rows cellsIn_len cellsIn_one (by decide) rfl _ _ 147 rfl W8.heap.size 3 i0 _ 8 Tryz.underlying147 hi0 hz0 hz1 hz2 rfl (by decide) (.slice (some ⟨g0, 0, none⟩) 0 0) 0 [] rfl HO0.out (some ⟨ob, ooff, none⟩) P oc (by rw [HPL.out]; rfl) HTN.out (by have := HPL.out; omega) HC.out.size ?_; intro v' wc ho hg ha; obtain ⟨a4, c4, rfl, -, -⟩ := own_slice ho; have HO4 := Lib.hid (show wc.ownsRow W8.heap.size 3 1 (.slice a4 P.length c4) P.length (P.flatMap cellsIn) by simpa using ho); have HNX := Lib.hid (HNX.out.grown hg ha); have HC := Lib.hid (below_grown HC.out hg HC.out.size fun k hk => (own_lt HO0.out hk).1); clear ho hg ha)
        refine One_mk (KW.mk' HC.out) ?_
        refine wpTree_one ?_
        simp only [nthOp]
        go_wp2_with (at_builtin; refine wpList_append_here _ rfl _ _ 147 rfl W8.heap.size 3 i0 (.int .i64 0) 1 8 Tryz.underlying147 hi0 hz0 hz1 hz2 rfl (by decide) (.slice a4 P.length c4) P.length (P.flatMap cellsIn) (by rw [HPL.out]; rfl) HO4.out ⟨gx, 0, none⟩ 1 1 (cellsIn x) rfl rfl HNX.out.c (cellsIn_one x) (by decide) (by have := HPL.out; simp only [maxLen]; omega) (by have := HPL.out; omega) HC.out.size ?_; intro v' wd ho hg ha; obtain ⟨a5, c5, rfl, -, -⟩ := own_slice ho; have HO5 := Lib.hid (show wd.ownsRow W8.heap.size 3 1 (.slice a5 (P.length + 1) c5) (P.length + 1) ((P ++ [x]).flatMap cellsIn) by rw [List.flatMap_append]; simpa using ho); have HC := Lib.hid (below_grown HC.out hg HC.out.size fun k hk => (own_lt HO4.out hk).1); clear ho hg ha)
        refine One_mk (KW.mk' HC.out) ?_
        refine wpTree_done ?_
        simp only [List.drop_succ_cons, List.drop_zero]
        have HDN := Lib.hid (insNews (HDV.out.keep HC.out))
        go_wp2_with (at_builtin; refine wpList_append_rows cellsIn_len cellsIn_one (by decide) rfl _ _ 147 rfl W8.heap.size 3 i0 _ 8 Tryz.underlying147 hi0 hz0 hz1 hz2 rfl (by decide) (.slice a5 (P.length + 1) c5) (P.length + 1) ((P ++ [x]).flatMap cellsIn) rfl HO5.out A2 D (oc - m) (by rw [HDL.out]; rfl) HDN.out (by have := HPL.out; have := HDL.out; omega) HC.out.size ?_; intro v' wg ho hg ha; obtain ⟨a6, c6, rfl, -, -⟩ := own_slice ho; have HO6 := Lib.hid (show wg.ownsRow W8.heap.size 3 1 (.slice a6 (P.length + 1 + D.length) c6) (P.length + 1 + D.length) ((P ++ [x] ++ D).flatMap cellsIn) by rw [List.flatMap_append]; exact ho); have HC := Lib.hid (below_grown HC.out hg HC.out.size fun k hk => (own_lt HO5.out hk).1); clear ho hg ha)
        refine NP_mk ?_
        go_wp2_with fail
        go_roundw
        case rel => exact ⟨i + 1, P ++ [x] ++ D, by omega, by go_num, HLN, Lib.hid (by have := HPL.out; have := HDL.out; have := HLL.out; simp; omega), by rw [show (P ++ [x] ++ D).length = P.length + 1 + D.length by simp; omega]; exact own_mono HO6.out HBW8.out.size, HBW8.out.trans (HC.out.mono HBW8.out.size)⟩
        case measure => first | (simp [intOf]; done) | (simp [intOf]; omega)
    ·have hki0 : ¬ (n : Int) < (L.length : Int) := by omega
     have hne0 : ((n : Int) == (L.length : Int)) = true := by simp; omega
     have HLO := HN
     have HHI := Lib.hid (show ∀ (hj : n < L.length), x < L[n] from fun hj => absurd hj hnl)
     clear HN hb
     go_upto_region 6 with fail
     refine wp_region_grew (by kernel_rfl) (by kernel_rfl) ?_
     repeat (first | go_big_quiet_step (fail) | quiet_step (fail))
     refine wpQuiet_nil ?_
     rintro _ ⟨gg, rfl⟩
     have HFB := Lib.hid (show Below W1.heap.size W1 (grew wr gg) from grewB HB2.out HB2.out.size _)
     generalize grew wr gg = W6 at HFB ⊢
     have x0 := cell_keep HFB.out HX.out
     have hlx := block_lt_of_cell x0
     simp only at hlx
     go_upto_region 8 with fail
     refine wp_region_grew (by kernel_rfl) (by kernel_rfl) ?_
     repeat (first | go_big_quiet_step (fail) | quiet_step (fail))
     refine wpQuiet_nil ?_
     rintro _ ⟨gg, rfl⟩
     have HB8 := Lib.hid (show Below W1.heap.size W1 (grew W6 gg) from grewB HFB.out HFB.out.size _)
     generalize grew W6 gg = W8 at HB8 ⊢
     have hml : n ≤ L.length := hn
     clear x0 hlx HFB hki0 hne0 hnl
     generalize n = m at *
     rcases HO.out.2 with ⟨e0, hn0⟩ | ⟨og, ocap, ocur, e0, -⟩
     ·injection e0 with e1 e2 e3
      subst e1
      clear e2 hn0 e3
      have x0 := cell_keep HB8.out HX.out
      have HBW8 := Lib.hid (HB.out.trans (HB8.out.mono HB.out.size))
      have HOV8 := Lib.hid (HOV.out.keep HB8.out)
      have HNW := Lib.hid (ins_new (L := L) (x := x) (m := m) hml HASC.out HLO.out HHI.out)
      obtain ⟨P, hP⟩ : ∃ P, P = L.take m := ⟨_, rfl⟩
      obtain ⟨D, hD⟩ : ∃ D, D = L.drop m := ⟨_, rfl⟩
      have HPL := Lib.hid (show P.length = m by rw [hP, List.length_take]; omega)
      have HDL := Lib.hid (show D.length = L.length - m by rw [hD, List.length_drop])
      have HTV := Lib.hid (show Ins.V W8 none P by rw [hP]; exact RowV.take HOV8.out m)
      have HLN := Lib.hid (show P ++ [x] ++ D = uniq (zs.take (i + 1)) by
       rw [hP, hD]
       refine uniq_of HNW.out.1 fun z => ?_
       rw [HNW.out.2 z, HTK.out, List.mem_append, List.mem_singleton, HL.out, uniq_mem])
      have HDV := Lib.hid (show Ins.V W8 none D from fun hne => by obtain ⟨b, o, h, _⟩ := HOV8.out (fun e => hne (by rw [hD, e]; simp)); cases h)
      have hmo : m ≤ oc := by have := HOC.out.1; omega
      have hml2 : m ≤ L.length := hml
      clear hP hD
      have kx0 : ∀ y : KW (fun W' => Below W8.heap.size W8 W'), (y.w.cell? ⟨bb, off + i, none⟩ = some (.int .i64 x)) := fun y => cell_keep y.ok x0
      haveI n1 : Nonempty (KW (fun W' => Below W8.heap.size W8 W')) := ⟨⟨W8, Below.refl _ _⟩⟩
      go_upto_region 9 with fail
      refine wp_region_tree (fun w' => ∃ y : KW (fun W' => Below W8.heap.size W8 W'), w' = y.w) 14 (.take 1 (.take 2 (.take 3 (.take 5 (.take 6 (.take 7 (.take 8 (.take 11 (.take 12 (.take 13 (.two 0 (.two 4 (.one 9 (.one 10 .done)) 9 (.one 4 (.one 10 .done))) 9 (.one 0 (.one 4 (.one 10 .done)))))))))))))) hmix (by kernel_rfl) (KW.mk' (Below.refl _ _).drew) ?_
      have HC := Lib.hid (show Below W8.heap.size W8 W8.drew from (Below.refl _ _).drew)
      generalize W8.drew = wz at *
      repeat (refine wpTree_take ?_; simp only [nthOp]; (first | go_big_quiet_step (fail) | quiet_step (fail)); refine wpQuiet_nil ?_)
      refine wpTree_two ?_ ?_
      ·skip
       simp only [nthOp]
       go_wp2_with fail
       have HAL := Lib.hid ((Below.refl wz.heap.size wz).alloc (Nat.le_refl _) (.cells #[] 3))
       have HO0 := Lib.hid (World.ownsRow_made (e := 3) (base := W8.heap.size) (size := 1) wz #[] 0 HC.out.size (by decide) (by simp))
       have HC := Lib.hid (HC.out.alloc HC.out.size (.cells #[] 3))
       refine One_mk (KW.mk' HC.out) ?_
       clear HAL
       generalize (wz.alloc (.cells #[] 3)) = wa at *
       generalize wz.heap.size = g0 at *
       refine wpTree_two ?_ ?_
       ·skip
        simp only [nthOp]
        have HTN := Lib.hid (insNews (HTV.out.keep HC.out))
        go_wp2_with (at_builtin; refine wpList_append_rows cellsIn_len cellsIn_one (by decide) rfl _ _ 147 rfl W8.heap.size 3 i0 _ 8 Tryz.underlying147 hi0 hz0 hz1 hz2 rfl (by decide) (.slice (some ⟨g0, 0, none⟩) 0 0) 0 [] rfl HO0.out none P oc (by rw [HPL.out]; rfl) HTN.out (by have := HPL.out; omega) HC.out.size ?_; intro v' wb ho hg ha; obtain ⟨a4, c4, rfl, -, -⟩ := own_slice ho; have HO4 := Lib.hid (show wb.ownsRow W8.heap.size 3 1 (.slice a4 P.length c4) P.length (P.flatMap cellsIn) by simpa using ho); have HC := Lib.hid (below_grown HC.out hg HC.out.size fun k hk => (own_lt HO0.out hk).1); clear ho hg ha)
        refine One_mk (KW.mk' HC.out) ?_
        refine wpTree_one ?_
        simp only [nthOp]
        go_wp2_with fail
        have HAL := Lib.hid ((Below.refl wb.heap.size wb).alloc (Nat.le_refl _) (.cells #[.int .i64 x] 3))
        have HNX := Lib.hid (show NewX (wb.alloc (.cells #[.int .i64 x] 3)) (.slice a4 P.length c4) wb.heap.size (cellsIn x) from NewX.new (cellsIn x) 3 (fun j hj => (own_lt HO4.out hj).2))
        have HO4 := Lib.hid (own_keep HO4.out HAL.out)
        have HC := Lib.hid (HC.out.alloc HC.out.size (.cells #[.int .i64 x] 3))
        refine One_mk (KW.mk' HC.out) ?_
        clear HAL
        generalize (wb.alloc (.cells #[.int .i64 x] 3)) = wc at *
        generalize wb.heap.size = gx at *
        refine wpTree_one ?_
        simp only [nthOp]
        go_wp2_with (at_builtin; refine wpList_append_here _ rfl _ _ 147 rfl W8.heap.size 3 i0 (.int .i64 0) 1 8 Tryz.underlying147 hi0 hz0 hz1 hz2 rfl (by decide) (.slice a4 P.length c4) P.length (P.flatMap cellsIn) (by rw [HPL.out]; rfl) HO4.out ⟨gx, 0, none⟩ 1 1 (cellsIn x) rfl rfl HNX.out.c (cellsIn_one x) (by decide) (by have := HPL.out; simp only [maxLen]; omega) (by have := HPL.out; omega) HC.out.size ?_; intro v' wd ho hg ha; obtain ⟨a5, c5, rfl, -, -⟩ := own_slice ho; have HO5 := Lib.hid (show wd.ownsRow W8.heap.size 3 1 (.slice a5 (P.length + 1) c5) (P.length + 1) ((P ++ [x]).flatMap cellsIn) by rw [List.flatMap_append]; simpa using ho); have HC := Lib.hid (below_grown HC.out hg HC.out.size fun k hk => (own_lt HO4.out hk).1); clear ho hg ha)
        refine One_mk (KW.mk' HC.out) ?_
        refine wpTree_done ?_
        simp only [List.drop_succ_cons, List.drop_zero]
        have HDN := Lib.hid (insNews (HDV.out.keep HC.out))
        go_wp2_with (at_builtin; refine wpList_append_rows cellsIn_len cellsIn_one (by decide) rfl _ _ 147 rfl W8.heap.size 3 i0 _ 8 Tryz.underlying147 hi0 hz0 hz1 hz2 rfl (by decide) (.slice a5 (P.length + 1) c5) (P.length + 1) ((P ++ [x]).flatMap cellsIn) rfl HO5.out none D (oc - m) (by rw [HDL.out]; rfl) HDN.out (by have := HPL.out; have := HDL.out; omega) HC.out.size ?_; intro v' wg ho hg ha; obtain ⟨a6, c6, rfl, -, -⟩ := own_slice ho; have HO6 := Lib.hid (show wg.ownsRow W8.heap.size 3 1 (.slice a6 (P.length + 1 + D.length) c6) (P.length + 1 + D.length) ((P ++ [x] ++ D).flatMap cellsIn) by rw [List.flatMap_append]; exact ho); have HC := Lib.hid (below_grown HC.out hg HC.out.size fun k hk => (own_lt HO5.out hk).1); clear ho hg ha)
        refine NP_mk ?_
        go_wp2_with fail
        go_roundw
        case rel => exact ⟨i + 1, P ++ [x] ++ D, by omega, by go_num, HLN, Lib.hid (by have := HPL.out; have := HDL.out; have := HLL.out; simp; omega), by rw [show (P ++ [x] ++ D).length = P.length + 1 + D.length by simp; omega]; exact own_mono HO6.out HBW8.out.size, HBW8.out.trans (HC.out.mono HBW8.out.size)⟩
        case measure => first | (simp [intOf]; done) | (simp [intOf]; omega)
       ·skip
        simp only [nthOp]
        go_wp2_with fail
        have HAL := Lib.hid ((Below.refl wa.heap.size wa).alloc (Nat.le_refl _) (.cells #[.int .i64 x] 3))
        have HNX := Lib.hid (show NewX (wa.alloc (.cells #[.int .i64 x] 3)) (.slice (some ⟨g0, 0, none⟩) 0 0) wa.heap.size (cellsIn x) from NewX.new (cellsIn x) 3 (fun j hj => (own_lt HO0.out hj).2))
        have HO0 := Lib.hid (own_keep HO0.out HAL.out)
        have HC := Lib.hid (HC.out.alloc HC.out.size (.cells #[.int .i64 x] 3))
        refine One_mk (KW.mk' HC.out) ?_
        clear HAL
        generalize (wa.alloc (.cells #[.int .i64 x] 3)) = wb at *
        generalize wa.heap.size = gx at *
        refine wpTree_one ?_
        simp only [nthOp]
        have HTN := Lib.hid (insNews (HTV.out.keep HC.out))
        go_wp2_with (at_builtin; refine wpList_append_rows cellsIn_len cellsIn_one (by decide) rfl _ _ 147 rfl W8.heap.size 3 i0 _ 8 Tryz.underlying147 hi0 hz0 hz1 hz2 rfl (by decide) (.slice (some ⟨g0, 0, none⟩) 0 0) 0 [] rfl HO0.out none P oc (by rw [HPL.out]; rfl) HTN.out (by have := HPL.out; omega) HC.out.size ?_; intro v' wc ho hg ha; obtain ⟨a4, c4, rfl, -, -⟩ := own_slice ho; have HO4 := Lib.hid (show wc.ownsRow W8.heap.size 3 1 (.slice a4 P.length c4) P.length (P.flatMap cellsIn) by simpa using ho); have HNX := Lib.hid (HNX.out.grown hg ha); have HC := Lib.hid (below_grown HC.out hg HC.out.size fun k hk => (own_lt HO0.out hk).1); clear ho hg ha)
        refine One_mk (KW.mk' HC.out) ?_
        refine wpTree_one ?_
        simp only [nthOp]
        go_wp2_with (at_builtin; refine wpList_append_here _ rfl _ _ 147 rfl W8.heap.size 3 i0 (.int .i64 0) 1 8 Tryz.underlying147 hi0 hz0 hz1 hz2 rfl (by decide) (.slice a4 P.length c4) P.length (P.flatMap cellsIn) (by rw [HPL.out]; rfl) HO4.out ⟨gx, 0, none⟩ 1 1 (cellsIn x) rfl rfl HNX.out.c (cellsIn_one x) (by decide) (by have := HPL.out; simp only [maxLen]; omega) (by have := HPL.out; omega) HC.out.size ?_; intro v' wd ho hg ha; obtain ⟨a5, c5, rfl, -, -⟩ := own_slice ho; have HO5 := Lib.hid (show wd.ownsRow W8.heap.size 3 1 (.slice a5 (P.length + 1) c5) (P.length + 1) ((P ++ [x]).flatMap cellsIn) by rw [List.flatMap_append]; simpa using ho); have HC := Lib.hid (below_grown HC.out hg HC.out.size fun k hk => (own_lt HO4.out hk).1); clear ho hg ha)
        refine One_mk (KW.mk' HC.out) ?_
        refine wpTree_done ?_
        simp only [List.drop_succ_cons, List.drop_zero]
        have HDN := Lib.hid (insNews (HDV.out.keep HC.out))
        go_wp2_with (at_builtin; refine wpList_append_rows cellsIn_len cellsIn_one (by decide) rfl _ _ 147 rfl W8.heap.size 3 i0 _ 8 Tryz.underlying147 hi0 hz0 hz1 hz2 rfl (by decide) (.slice a5 (P.length + 1) c5) (P.length + 1) ((P ++ [x]).flatMap cellsIn) rfl HO5.out none D (oc - m) (by rw [HDL.out]; rfl) HDN.out (by have := HPL.out; have := HDL.out; omega) HC.out.size ?_; intro v' wg ho hg ha; obtain ⟨a6, c6, rfl, -, -⟩ := own_slice ho; have HO6 := Lib.hid (show wg.ownsRow W8.heap.size 3 1 (.slice a6 (P.length + 1 + D.length) c6) (P.length + 1 + D.length) ((P ++ [x] ++ D).flatMap cellsIn) by rw [List.flatMap_append]; exact ho); have HC := Lib.hid (below_grown HC.out hg HC.out.size fun k hk => (own_lt HO5.out hk).1); clear ho hg ha)
        refine NP_mk ?_
        go_wp2_with fail
        go_roundw
        case rel => exact ⟨i + 1, P ++ [x] ++ D, by omega, by go_num, HLN, Lib.hid (by have := HPL.out; have := HDL.out; have := HLL.out; simp; omega), by rw [show (P ++ [x] ++ D).length = P.length + 1 + D.length by simp; omega]; exact own_mono HO6.out HBW8.out.size, HBW8.out.trans (HC.out.mono HBW8.out.size)⟩
        case measure => first | (simp [intOf]; done) | (simp [intOf]; omega)
      ·skip
       simp only [nthOp]
       go_wp2_with fail
       have HAL := Lib.hid ((Below.refl wz.heap.size wz).alloc (Nat.le_refl _) (.cells #[.int .i64 x] 3))
       have HNX := Lib.hid (show NewX (wz.alloc (.cells #[.int .i64 x] 3)) (.slice none 0 0) wz.heap.size (cellsIn x) from NewX.new (cellsIn x) 3 (fun j hj => by cases hj))
       have HC := Lib.hid (HC.out.alloc HC.out.size (.cells #[.int .i64 x] 3))
       refine One_mk (KW.mk' HC.out) ?_
       clear HAL
       generalize (wz.alloc (.cells #[.int .i64 x] 3)) = wa at *
       generalize wz.heap.size = gx at *
       refine wpTree_one ?_
       simp only [nthOp]
       go_wp2_with fail
       have HAL := Lib.hid ((Below.refl wa.heap.size wa).alloc (Nat.le_refl _) (.cells #[] 3))
       have HO0 := Lib.hid (World.ownsRow_made (e := 3) (base := W8.heap.size) (size := 1) wa #[] 0 HC.out.size (by decide) (by simp))
       have HNX := Lib.hid ((HNX.out.keep HAL.out).row (v' := .slice (some ⟨wa.heap.size, 0, none⟩) 0 0) (fun e => by injection e with e; have := HNX.out.l; simp only at e; omega))
       have HC := Lib.hid (HC.out.alloc HC.out.size (.cells #[] 3))
       refine One_mk (KW.mk' HC.out) ?_
       clear HAL
       generalize (wa.alloc (.cells #[] 3)) = wb at *
       generalize wa.heap.size = g0 at *
       refine wpTree_one ?_
       simp only [nthOp]
       have HTN := Lib.hid (insNews (HTV.out.keep HC.out))
       go_wp2_with (at_builtin; refine wpList_append_rows cellsIn_len cellsIn_one (by decide) rfl _ _ 147 rfl W8.heap.size 3 i0 _ 8 Tryz.underlying147 hi0 hz0 hz1 hz2 rfl (by decide) (.slice (some ⟨g0, 0, none⟩) 0 0) 0 [] rfl HO0.out none P oc (by rw [HPL.out]; rfl) HTN.out (by have := HPL.out; omega) HC.out.size ?_; intro v' wc ho hg ha; obtain ⟨a4, c4, rfl, -, -⟩ := own_slice ho; have HO4 := Lib.hid (show wc.ownsRow W8.heap.size 3 1 (.slice a4 P.length c4) P.length (P.flatMap cellsIn) by simpa using ho); have HNX := Lib.hid (HNX.out.grown hg ha); have HC := Lib.hid (below_grown HC.out hg HC.out.size fun k hk => (own_lt HO0.out hk).1); clear ho hg ha)
       refine One_mk (KW.mk' HC.out) ?_
       refine wpTree_one ?_
       simp only [nthOp]
       go_wp2_with (at_builtin; refine wpList_append_here _ rfl _ _ 147 rfl W8.heap.size 3 i0 (.int .i64 0) 1 8 Tryz.underlying147 hi0 hz0 hz1 hz2 rfl (by decide) (.slice a4 P.length c4) P.length (P.flatMap cellsIn) (by rw [HPL.out]; rfl) HO4.out ⟨gx, 0, none⟩ 1 1 (cellsIn x) rfl rfl HNX.out.c (cellsIn_one x) (by decide) (by have := HPL.out; simp only [maxLen]; omega) (by have := HPL.out; omega) HC.out.size ?_; intro v' wd ho hg ha; obtain ⟨a5, c5, rfl, -, -⟩ := own_slice ho; have HO5 := Lib.hid (show wd.ownsRow W8.heap.size 3 1 (.slice a5 (P.length + 1) c5) (P.length + 1) ((P ++ [x]).flatMap cellsIn) by rw [List.flatMap_append]; simpa using ho); have HC := Lib.hid (below_grown HC.out hg HC.out.size fun k hk => (own_lt HO4.out hk).1); clear ho hg ha)
       refine One_mk (KW.mk' HC.out) ?_
       refine wpTree_done ?_
       simp only [List.drop_succ_cons, List.drop_zero]
       have HDN := Lib.hid (insNews (HDV.out.keep HC.out))
       go_wp2_with (at_builtin; refine wpList_append_rows cellsIn_len cellsIn_one (by decide) rfl _ _ 147 rfl W8.heap.size 3 i0 _ 8 Tryz.underlying147 hi0 hz0 hz1 hz2 rfl (by decide) (.slice a5 (P.length + 1) c5) (P.length + 1) ((P ++ [x]).flatMap cellsIn) rfl HO5.out none D (oc - m) (by rw [HDL.out]; rfl) HDN.out (by have := HPL.out; have := HDL.out; omega) HC.out.size ?_; intro v' wg ho hg ha; obtain ⟨a6, c6, rfl, -, -⟩ := own_slice ho; have HO6 := Lib.hid (show wg.ownsRow W8.heap.size 3 1 (.slice a6 (P.length + 1 + D.length) c6) (P.length + 1 + D.length) ((P ++ [x] ++ D).flatMap cellsIn) by rw [List.flatMap_append]; exact ho); have HC := Lib.hid (below_grown HC.out hg HC.out.size fun k hk => (own_lt HO5.out hk).1); clear ho hg ha)
       refine NP_mk ?_
       go_wp2_with fail
       go_roundw
       case rel => exact ⟨i + 1, P ++ [x] ++ D, by omega, by go_num, HLN, Lib.hid (by have := HPL.out; have := HDL.out; have := HLL.out; simp; omega), by rw [show (P ++ [x] ++ D).length = P.length + 1 + D.length by simp; omega]; exact own_mono HO6.out HBW8.out.size, HBW8.out.trans (HC.out.mono HBW8.out.size)⟩
       case measure => first | (simp [intOf]; done) | (simp [intOf]; omega)
     ·injection e0 with e1 e2 e3
      obtain ⟨ob, hob⟩ : ∃ ob, ob = og := ⟨_, rfl⟩
      obtain ⟨ooff, hoo⟩ : ∃ o : Nat, o = 0 := ⟨_, rfl⟩
      rw [← hoo, ← hob] at e1
      subst e1
      clear hob hoo e2 e3
      have x0 := cell_keep HB8.out HX.out
      have HBW8 := Lib.hid (HB.out.trans (HB8.out.mono HB.out.size))
      have HOV8 := Lib.hid (HOV.out.keep HB8.out)
      have HNW := Lib.hid (ins_new (L := L) (x := x) (m := m) hml HASC.out HLO.out HHI.out)
      obtain ⟨P, hP⟩ : ∃ P, P = L.take m := ⟨_, rfl⟩
      obtain ⟨D, hD⟩ : ∃ D, D = L.drop m := ⟨_, rfl⟩
      have HPL := Lib.hid (show P.length = m by rw [hP, List.length_take]; omega)
      have HDL := Lib.hid (show D.length = L.length - m by rw [hD, List.length_drop])
      have HTV := Lib.hid (show Ins.V W8 (some ⟨ob, ooff, none⟩) P by rw [hP]; exact RowV.take HOV8.out m)
      have HLN := Lib.hid (show P ++ [x] ++ D = uniq (zs.take (i + 1)) by
       rw [hP, hD]
       refine uniq_of HNW.out.1 fun z => ?_
       rw [HNW.out.2 z, HTK.out, List.mem_append, List.mem_singleton, HL.out, uniq_mem])
      have HDV := Lib.hid (show Ins.V W8 (if oc = m then some ⟨ob, ooff, none⟩ else some ⟨ob, ooff + m, none⟩) D by
       rw [hD]
       split
       ·rename_i hcm
        rw [List.drop_of_length_le (by have := HOC.out.1; omega)]; exact RowV.nil
       ·have h := RowV.drop HOV8.out m
        rw [Nat.mul_one] at h
        exact h)
      have hmo : m ≤ oc := by have := HOC.out.1; omega
      have hml2 : m ≤ L.length := hml
      clear hP hD
      have kx0 : ∀ y : KW (fun W' => Below W8.heap.size W8 W'), (y.w.cell? ⟨bb, off + i, none⟩ = some (.int .i64 x)) := fun y => cell_keep y.ok x0
      haveI n1 : Nonempty (KW (fun W' => Below W8.heap.size W8 W')) := ⟨⟨W8, Below.refl _ _⟩⟩
      go_upto_region 9 with fail
      refine wp_region_tree (fun w' => ∃ y : KW (fun W' => Below W8.heap.size W8 W'), w' = y.w) 14 (.take 1 (.take 2 (.take 3 (.take 5 (.take 6 (.take 7 (.take 8 (.take 11 (.take 12 (.take 13 (.two 0 (.two 4 (.one 9 (.one 10 .done)) 9 (.one 4 (.one 10 .done))) 9 (.one 0 (.one 4 (.one 10 .done)))))))))))))) hmix (by kernel_rfl) (KW.mk' (Below.refl _ _).drew) ?_
      have HC := Lib.hid (show Below W8.heap.size W8 W8.drew from (Below.refl _ _).drew)
      generalize W8.drew = wz at *
      repeat (refine wpTree_take ?_; simp only [nthOp]; (first | go_big_quiet_step (fail) | quiet_step (fail)); refine wpQuiet_nil ?_)
      generalize (if oc = m then (some ⟨ob, ooff, none⟩ : Option Addr) else some ⟨ob, ooff + m, none⟩) = A2 at HDV ⊢
      refine wpTree_two ?_ ?_
      ·skip
       simp only [nthOp]
       go_wp2_with fail
       have HAL := Lib.hid ((Below.refl wz.heap.size wz).alloc (Nat.le_refl _) (.cells #[] 3))
       have HO0 := Lib.hid (World.ownsRow_made (e := 3) (base := W8.heap.size) (size := 1) wz #[] 0 HC.out.size (by decide) (by simp))
       have HC := Lib.hid (HC.out.alloc HC.out.size (.cells #[] 3))
       refine One_mk (KW.mk' HC.out) ?_
       clear HAL
       generalize (wz.alloc (.cells #[] 3)) = wa at *
       generalize wz.heap.size = g0 at *
       refine wpTree_two ?_ ?_
       ·skip
        simp only [nthOp]
        have HTN := Lib.hid (insNews (HTV.out.keep HC.out))
        go_wp2_with (at_builtin; refine wpList_append_rows cellsIn_len cellsIn_one (by decide) rfl _ _ 147 rfl W8.heap.size 3 i0 _ 8 Tryz.underlying147 hi0 hz0 hz1 hz2 rfl (by decide) (.slice (some ⟨g0, 0, none⟩) 0 0) 0 [] rfl HO0.out (some ⟨ob, ooff, none⟩) P oc (by rw [HPL.out]; rfl) HTN.out (by have := HPL.out; omega) HC.out.size ?_; intro v' wb ho hg ha; obtain ⟨a4, c4, rfl, -, -⟩ := own_slice ho; have HO4 := Lib.hid (show wb.ownsRow W8.heap.size 3 1 (.slice a4 P.length c4) P.length (P.flatMap cellsIn) by simpa using ho); have HC := Lib.hid (below_grown HC.out hg HC.out.size fun k hk => (own_lt HO0.out hk).1); clear ho hg ha)
        refine One_mk (KW.mk' HC.out) ?_
        refine wpTree_one ?_
        simp only [nthOp]
        go_wp2_with fail
        have HAL := Lib.hid ((Below.refl wb.heap.size wb).alloc (Nat.le_refl _) (.cells #[.int .i64 x] 3))
        have HNX := Lib.hid (show NewX (wb.alloc (.cells #[.int .i64 x] 3)) (.slice a4 P.length c4) wb.heap.size (cellsIn x) from NewX.new (cellsIn x) 3 (fun j hj => (own_lt HO4.out hj).2))
        have HO4 := Lib.hid (own_keep HO4.out HAL.out)
        have HC := Lib.hid (HC.out.alloc HC.out.size (.cells #[.int .i64 x] 3))
        refine One_mk (KW.mk' HC.out) ?_
        clear HAL
        generalize (wb.alloc (.cells #[.int .i64 x] 3)) = wc at *
        generalize wb.heap.size = gx at *
        refine wpTree_one ?_
        simp only [nthOp]
        go_wp2_with (at_builtin; refine wpList_append_here _ rfl _ _ 147 rfl W8.heap.size 3 i0 (.int .i64 0) 1 8 Tryz.underlying147 hi0 hz0 hz1 hz2 rfl (by decide) (.slice a4 P.length c4) P.length (P.flatMap cellsIn) (by rw [HPL.out]; rfl) HO4.out ⟨gx, 0, none⟩ 1 1 (cellsIn x) rfl rfl HNX.out.c (cellsIn_one x) (by decide) (by have := HPL.out; simp only [maxLen]; omega) (by have := HPL.out; omega) HC.out.size ?_; intro v' wd ho hg ha; obtain ⟨a5, c5, rfl, -, -⟩ := own_slice ho; have HO5 := Lib.hid (show wd.ownsRow W8.heap.size 3 1 (.slice a5 (P.length + 1) c5) (P.length + 1) ((P ++ [x]).flatMap cellsIn) by rw [List.flatMap_append]; simpa using ho); have HC := Lib.hid (below_grown HC.out hg HC.out.size fun k hk => (own_lt HO4.out hk).1); clear ho hg ha)
        refine One_mk (KW.mk' HC.out) ?_
        refine wpTree_done ?_
        simp only [List.drop_succ_cons, List.drop_zero]
        have HDN := Lib.hid (insNews (HDV.out.keep HC.out))
        go_wp2_with (at_builtin; refine wpList_append_rows cellsIn_len cellsIn_one (by decide) rfl _ _ 147 rfl W8.heap.size 3 i0 _ 8 Tryz.underlying147 hi0 hz0 hz1 hz2 rfl (by decide) (.slice a5 (P.length + 1) c5) (P.length + 1) ((P ++ [x]).flatMap cellsIn) rfl HO5.out A2 D (oc - m) (by rw [HDL.out]; rfl) HDN.out (by have := HPL.out; have := HDL.out; omega) HC.out.size ?_; intro v' wg ho hg ha; obtain ⟨a6, c6, rfl, -, -⟩ := own_slice ho; have HO6 := Lib.hid (show wg.ownsRow W8.heap.size 3 1 (.slice a6 (P.length + 1 + D.length) c6) (P.length + 1 + D.length) ((P ++ [x] ++ D).flatMap cellsIn) by rw [List.flatMap_append]; exact ho); have HC := Lib.hid (below_grown HC.out hg HC.out.size fun k hk => (own_lt HO5.out hk).1); clear ho hg ha)
        refine NP_mk ?_
        go_wp2_with fail
        go_roundw
        case rel => exact ⟨i + 1, P ++ [x] ++ D, by omega, by go_num, HLN, Lib.hid (by have := HPL.out; have := HDL.out; have := HLL.out; simp; omega), by rw [show (P ++ [x] ++ D).length = P.length + 1 + D.length by simp; omega]; exact own_mono HO6.out HBW8.out.size, HBW8.out.trans (HC.out.mono HBW8.out.size)⟩
        case measure => first | (simp [intOf]; done) | (simp [intOf]; omega)
       ·skip
        simp only [nthOp]
        go_wp2_with fail
        have HAL := Lib.hid ((Below.refl wa.heap.size wa).alloc (Nat.le_refl _) (.cells #[.int .i64 x] 3))
        have HNX := Lib.hid (show NewX (wa.alloc (.cells #[.int .i64 x] 3)) (.slice (some ⟨g0, 0, none⟩) 0 0) wa.heap.size (cellsIn x) from NewX.new (cellsIn x) 3 (fun j hj => (own_lt HO0.out hj).2))
        have HO0 := Lib.hid (own_keep HO0.out HAL.out)
        have HC := Lib.hid (HC.out.alloc HC.out.size (.cells #[.int .i64 x] 3))
        refine One_mk (KW.mk' HC.out) ?_
        clear HAL
        generalize (wa.alloc (.cells #[.int .i64 x] 3)) = wb at *
        generalize wa.heap.size = gx at *
        refine wpTree_one ?_
        simp only [nthOp]
        have HTN := Lib.hid (insNews (HTV.out.keep HC.out))
        go_wp2_with (at_builtin; refine wpList_append_rows cellsIn_len cellsIn_one (by decide) rfl _ _ 147 rfl W8.heap.size 3 i0 _ 8 Tryz.underlying147 hi0 hz0 hz1 hz2 rfl (by decide) (.slice (some ⟨g0, 0, none⟩) 0 0) 0 [] rfl HO0.out (some ⟨ob, ooff, none⟩) P oc (by rw [HPL.out]; rfl) HTN.out (by have := HPL.out; omega) HC.out.size ?_; intro v' wc ho hg ha; obtain ⟨a4, c4, rfl, -, -⟩ := own_slice ho; have HO4 := Lib.hid (show wc.ownsRow W8.heap.size 3 1 (.slice a4 P.length c4) P.length (P.flatMap cellsIn) by simpa using ho); have HNX := Lib.hid (HNX.out.grown hg ha); have HC := Lib.hid (below_grown HC.out hg HC.out.size fun k hk => (own_lt HO0.out hk).1); clear ho hg ha)
        refine One_mk (KW.mk' HC.out) ?_
        refine wpTree_one ?_
        simp only [nthOp]
        go_wp2_with (at_builtin; refine wpList_append_here _ rfl _ _ 147 rfl W8.heap.size 3 i0 (.int .i64 0) 1 8 Tryz.underlying147 hi0 hz0 hz1 hz2 rfl (by decide) (.slice a4 P.length c4) P.length (P.flatMap cellsIn) (by rw [HPL.out]; rfl) HO4.out ⟨gx, 0, none⟩ 1 1 (cellsIn x) rfl rfl HNX.out.c (cellsIn_one x) (by decide) (by have := HPL.out; simp only [maxLen]; omega) (by have := HPL.out; omega) HC.out.size ?_; intro v' wd ho hg ha; obtain ⟨a5, c5, rfl, -, -⟩ := own_slice ho; have HO5 := Lib.hid (show wd.ownsRow W8.heap.size 3 1 (.slice a5 (P.length + 1) c5) (P.length + 1) ((P ++ [x]).flatMap cellsIn) by rw [List.flatMap_append]; simpa using ho); have HC := Lib.hid (below_grown HC.out hg HC.out.size fun k hk => (own_lt HO4.out hk).1); clear ho hg ha)
        refine One_mk (KW.mk' HC.out) ?_
        refine wpTree_done ?_
        simp only [List.drop_succ_cons, List.drop_zero]
        have HDN := Lib.hid (insNews (HDV.out.keep HC.out))
        go_wp2_with (at_builtin; refine wpList_append_rows cellsIn_len cellsIn_one (by decide) rfl _ _ 147 rfl W8.heap.size 3 i0 _ 8 Tryz.underlying147 hi0 hz0 hz1 hz2 rfl (by decide) (.slice a5 (P.length + 1) c5) (P.length + 1) ((P ++ [x]).flatMap cellsIn) rfl HO5.out A2 D (oc - m) (by rw [HDL.out]; rfl) HDN.out (by have := HPL.out; have := HDL.out; omega) HC.out.size ?_; intro v' wg ho hg ha; obtain ⟨a6, c6, rfl, -, -⟩ := own_slice ho; have HO6 := Lib.hid (show wg.ownsRow W8.heap.size 3 1 (.slice a6 (P.length + 1 + D.length) c6) (P.length + 1 + D.length) ((P ++ [x] ++ D).flatMap cellsIn) by rw [List.flatMap_append]; exact ho); have HC := Lib.hid (below_grown HC.out hg HC.out.size fun k hk => (own_lt HO5.out hk).1); clear ho hg ha)
        refine NP_mk ?_
        go_wp2_with fail
        go_roundw
        case rel => exact ⟨i + 1, P ++ [x] ++ D, by omega, by go_num, HLN, Lib.hid (by have := HPL.out; have := HDL.out; have := HLL.out; simp; omega), by rw [show (P ++ [x] ++ D).length = P.length + 1 + D.length by simp; omega]; exact own_mono HO6.out HBW8.out.size, HBW8.out.trans (HC.out.mono HBW8.out.size)⟩
        case measure => first | (simp [intOf]; done) | (simp [intOf]; omega)
      ·skip
       simp only [nthOp]
       go_wp2_with fail
       have HAL := Lib.hid ((Below.refl wz.heap.size wz).alloc (Nat.le_refl _) (.cells #[.int .i64 x] 3))
       have HNX := Lib.hid (show NewX (wz.alloc (.cells #[.int .i64 x] 3)) (.slice none 0 0) wz.heap.size (cellsIn x) from NewX.new (cellsIn x) 3 (fun j hj => by cases hj))
       have HC := Lib.hid (HC.out.alloc HC.out.size (.cells #[.int .i64 x] 3))
       refine One_mk (KW.mk' HC.out) ?_
       clear HAL
       generalize (wz.alloc (.cells #[.int .i64 x] 3)) = wa at *
       generalize wz.heap.size = gx at *
       refine wpTree_one ?_
       simp only [nthOp]
       go_wp2_with fail
       have HAL := Lib.hid ((Below.refl wa.heap.size wa).alloc (Nat.le_refl _) (.cells #[] 3))
       have HO0 := Lib.hid (World.ownsRow_made (e := 3) (base := W8.heap.size) (size := 1) wa #[] 0 HC.out.size (by decide) (by simp))
       have HNX := Lib.hid ((HNX.out.keep HAL.out).row (v' := .slice (some ⟨wa.heap.size, 0, none⟩) 0 0) (fun e => by injection e with e; have := HNX.out.l; simp only at e; omega))
       have HC := Lib.hid (HC.out.alloc HC.out.size (.cells #[] 3))
       refine One_mk (KW.mk' HC.out) ?_
       clear HAL
       generalize (wa.alloc (.cells #[] 3)) = wb at *
       generalize wa.heap.size = g0 at *
       refine wpTree_one ?_
       simp only [nthOp]
       have HTN := Lib.hid (insNews (HTV.out.keep HC.out))
       go_wp2_with (at_builtin; refine wpList_append_rows cellsIn_len cellsIn_one (by decide) rfl _ _ 147 rfl W8.heap.size 3 i0 _ 8 Tryz.underlying147 hi0 hz0 hz1 hz2 rfl (by decide) (.slice (some ⟨g0, 0, none⟩) 0 0) 0 [] rfl HO0.out (some ⟨ob, ooff, none⟩) P oc (by rw [HPL.out]; rfl) HTN.out (by have := HPL.out; omega) HC.out.size ?_; intro v' wc ho hg ha; obtain ⟨a4, c4, rfl, -, -⟩ := own_slice ho; have HO4 := Lib.hid (show wc.ownsRow W8.heap.size 3 1 (.slice a4 P.length c4) P.length (P.flatMap cellsIn) by simpa using ho); have HNX := Lib.hid (HNX.out.grown hg ha); have HC := Lib.hid (below_grown HC.out hg HC.out.size fun k hk => (own_lt HO0.out hk).1); clear ho hg ha)
       refine One_mk (KW.mk' HC.out) ?_
       refine wpTree_one ?_
       simp only [nthOp]
       go_wp2_with (at_builtin; refine wpList_append_here _ rfl _ _ 147 rfl W8.heap.size 3 i0 (.int .i64 0) 1 8 Tryz.underlying147 hi0 hz0 hz1 hz2 rfl (by decide) (.slice a4 P.length c4) P.length (P.flatMap cellsIn) (by rw [HPL.out]; rfl) HO4.out ⟨gx, 0, none⟩ 1 1 (cellsIn x) rfl rfl HNX.out.c (cellsIn_one x) (by decide) (by have := HPL.out; simp only [maxLen]; omega) (by have := HPL.out; omega) HC.out.size ?_; intro v' wd ho hg ha; obtain ⟨a5, c5, rfl, -, -⟩ := own_slice ho; have HO5 := Lib.hid (show wd.ownsRow W8.heap.size 3 1 (.slice a5 (P.length + 1) c5) (P.length + 1) ((P ++ [x]).flatMap cellsIn) by rw [List.flatMap_append]; simpa using ho); have HC := Lib.hid (below_grown HC.out hg HC.out.size fun k hk => (own_lt HO4.out hk).1); clear ho hg ha)
       refine One_mk (KW.mk' HC.out) ?_
       refine wpTree_done ?_
       simp only [List.drop_succ_cons, List.drop_zero]
       have HDN := Lib.hid (insNews (HDV.out.keep HC.out))
       go_wp2_with (at_builtin; refine wpList_append_rows cellsIn_len cellsIn_one (by decide) rfl _ _ 147 rfl W8.heap.size 3 i0 _ 8 Tryz.underlying147 hi0 hz0 hz1 hz2 rfl (by decide) (.slice a5 (P.length + 1) c5) (P.length + 1) ((P ++ [x]).flatMap cellsIn) rfl HO5.out A2 D (oc - m) (by rw [HDL.out]; rfl) HDN.out (by have := HPL.out; have := HDL.out; omega) HC.out.size ?_; intro v' wg ho hg ha; obtain ⟨a6, c6, rfl, -, -⟩ := own_slice ho; have HO6 := Lib.hid (show wg.ownsRow W8.heap.size 3 1 (.slice a6 (P.length + 1 + D.length) c6) (P.length + 1 + D.length) ((P ++ [x] ++ D).flatMap cellsIn) by rw [List.flatMap_append]; exact ho); have HC := Lib.hid (below_grown HC.out hg HC.out.size fun k hk => (own_lt HO5.out hk).1); clear ho hg ha)
       refine NP_mk ?_
       go_wp2_with fail
       go_roundw
       case rel => exact ⟨i + 1, P ++ [x] ++ D, by omega, by go_num, HLN, Lib.hid (by have := HPL.out; have := HDL.out; have := HLL.out; simp; omega), by rw [show (P ++ [x] ++ D).length = P.length + 1 + D.length by simp; omega]; exact own_mono HO6.out HBW8.out.size, HBW8.out.trans (HC.out.mono HBW8.out.size)⟩
       case measure => first | (simp [intOf]; done) | (simp [intOf]; omega)
  ·obtain rfl : i = zs.length := by omega
   have hki : ¬ ((zs.length : Nat) : Int) < ((zs.length : Nat) : Int) := by omega
   rw [List.take_length, ← HR.out] at HL
   have hL : L = R := HL.out
   subst hL
   go_wp2_with fail
   go_ret
   exact ⟨oa, oc, rfl, HO.out, HB.out⟩
end Go.Proofs.YtbhgkadklklmbaaGreat
/- The rows of the document's Volume under way. -/
set_option linter.unusedVariables false
set_option linter.unusedSimpArgs false
namespace Go.Proofs.YtbhgkadklklmbaaGreat
open Go Go.RowKit Go.Sort Go.Lib

structure VolR (N : Nat) (w0 w : World) (vb vx vy vz : Value) (bs : List Box6) (xs ys zs : List Int) : Prop where
 ob : w.ownsRow N 75 6 vb bs.length (bs.flatMap cellsBx)
 ox : w.ownsRow N 3 1 vx xs.length (xs.map (Value.int .i64))
 oy : w.ownsRow N 3 1 vy ys.length (ys.map (Value.int .i64))
 oz : w.ownsRow N 3 1 vz zs.length (zs.map (Value.int .i64))
 pbx : Apart vb vx
 pby : Apart vb vy
 pbz : Apart vb vz
 pxy : Apart vx vy
 pxz : Apart vx vz
 pyz : Apart vy vz
 b : Below N w0 w
 n : N ≤ w.heap.size
theorem VolR.keep {N : Nat} {w0 w w' : World} {vb vx vy vz : Value} {bs : List Box6} {xs ys zs : List Int} (h : VolR N w0 w vb vx vy vz bs xs ys zs) (hb : Below w.heap.size w w') : VolR N w0 w' vb vx vy vz bs xs ys zs :=
 ⟨own_keep h.ob hb, own_keep h.ox hb, own_keep h.oy hb, own_keep h.oz hb, h.pbx, h.pby, h.pbz, h.pxy, h.pxz, h.pyz, h.b.trans (hb.mono h.n), Nat.le_trans h.n hb.size⟩
theorem VolR.putB {N : Nat} {w0 w w' : World} {vb vx vy vz : Value} {bs : List Box6} {xs ys zs : List Int} {vb' : Value} {bs' : List Box6} (h : VolR N w0 w vb vx vy vz bs xs ys zs) (ho : w'.ownsRow N 75 6 vb' bs'.length (bs'.flatMap cellsBx)) (hg : w.grownBy w' vb.ownBlock) (hv : vb'.ownBlock = vb.ownBlock ∨ vb'.ownBlock = some w.heap.size) : VolR N w0 w' vb' vx vy vz bs' xs ys zs :=
 ⟨ho, h.ox.kept hg (h.pbx.symm).hne, h.oy.kept hg (h.pby.symm).hne, h.oz.kept hg (h.pbz.symm).hne, (h.pbx.symm.put h.ox hv).symm, (h.pby.symm.put h.oy hv).symm, (h.pbz.symm.put h.oz hv).symm, h.pxy, h.pxz, h.pyz, below_grown h.b hg h.n fun k hk => (own_lt h.ob hk).1, Nat.le_trans h.n hg.size⟩
theorem VolR.putX {N : Nat} {w0 w w' : World} {vb vx vy vz : Value} {bs : List Box6} {xs ys zs : List Int} {vx' : Value} {xs' : List Int} (h : VolR N w0 w vb vx vy vz bs xs ys zs) (ho : w'.ownsRow N 3 1 vx' xs'.length (xs'.map (Value.int .i64))) (hg : w.grownBy w' vx.ownBlock) (hv : vx'.ownBlock = vx.ownBlock ∨ vx'.ownBlock = some w.heap.size) : VolR N w0 w' vb vx' vy vz bs xs' ys zs :=
 ⟨h.ob.kept hg (h.pbx).hne, ho, h.oy.kept hg (h.pxy.symm).hne, h.oz.kept hg (h.pxz.symm).hne, h.pbx.put h.ob hv, h.pby, h.pbz, (h.pxy.symm.put h.oy hv).symm, (h.pxz.symm.put h.oz hv).symm, h.pyz, below_grown h.b hg h.n fun k hk => (own_lt h.ox hk).1, Nat.le_trans h.n hg.size⟩
theorem VolR.putY {N : Nat} {w0 w w' : World} {vb vx vy vz : Value} {bs : List Box6} {xs ys zs : List Int} {vy' : Value} {ys' : List Int} (h : VolR N w0 w vb vx vy vz bs xs ys zs) (ho : w'.ownsRow N 3 1 vy' ys'.length (ys'.map (Value.int .i64))) (hg : w.grownBy w' vy.ownBlock) (hv : vy'.ownBlock = vy.ownBlock ∨ vy'.ownBlock = some w.heap.size) : VolR N w0 w' vb vx vy' vz bs xs ys' zs :=
 ⟨h.ob.kept hg (h.pby).hne, h.ox.kept hg (h.pxy).hne, ho, h.oz.kept hg (h.pyz.symm).hne, h.pbx, h.pby.put h.ob hv, h.pbz, h.pxy.put h.ox hv, h.pxz, (h.pyz.symm.put h.oz hv).symm, below_grown h.b hg h.n fun k hk => (own_lt h.oy hk).1, Nat.le_trans h.n hg.size⟩
theorem VolR.putZ {N : Nat} {w0 w w' : World} {vb vx vy vz : Value} {bs : List Box6} {xs ys zs : List Int} {vz' : Value} {zs' : List Int} (h : VolR N w0 w vb vx vy vz bs xs ys zs) (ho : w'.ownsRow N 3 1 vz' zs'.length (zs'.map (Value.int .i64))) (hg : w.grownBy w' vz.ownBlock) (hv : vz'.ownBlock = vz.ownBlock ∨ vz'.ownBlock = some w.heap.size) : VolR N w0 w' vb vx vy vz' bs xs ys zs' :=
 ⟨h.ob.kept hg (h.pbz).hne, h.ox.kept hg (h.pxz).hne, h.oy.kept hg (h.pyz).hne, ho, h.pbx, h.pby, h.pbz.put h.ob hv, h.pxy, h.pxz.put h.ox hv, h.pyz.put h.oy hv, below_grown h.b hg h.n fun k hk => (own_lt h.oz hk).1, Nat.le_trans h.n hg.size⟩
structure VolRG (N : Nat) (w0 w : World) (vb vx vy vz : Value) (bs : List Box6) (xs ys zs : List Int) (g : Nat) (B : Box6) : Prop where
 v : VolR N w0 w vb vx vy vz bs xs ys zs
 c : BxC w g B.at_
 nb : vb.ownBlock ≠ some g
 nx : vx.ownBlock ≠ some g
 ny : vy.ownBlock ≠ some g
 nz : vz.ownBlock ≠ some g
theorem VolRG.keep {N : Nat} {w0 w w' : World} {vb vx vy vz : Value} {bs : List Box6} {xs ys zs : List Int} {g : Nat} {B : Box6} (h : VolRG N w0 w vb vx vy vz bs xs ys zs g B) (hb : Below w.heap.size w w') : VolRG N w0 w' vb vx vy vz bs xs ys zs g B := ⟨h.v.keep hb, h.c.keep hb, h.nb, h.nx, h.ny, h.nz⟩
theorem VolRG.putB {N : Nat} {w0 w w' : World} {vb vx vy vz : Value} {bs : List Box6} {xs ys zs : List Int} {g : Nat} {B : Box6} {vb' : Value} {bs' : List Box6} (h : VolRG N w0 w vb vx vy vz bs xs ys zs g B) (ho : w'.ownsRow N 75 6 vb' bs'.length (bs'.flatMap cellsBx)) (hg : w.grownBy w' vb.ownBlock) (hv : vb'.ownBlock = vb.ownBlock ∨ vb'.ownBlock = some w.heap.size) : VolRG N w0 w' vb' vx vy vz bs' xs ys zs g B :=
 ⟨h.v.putB ho hg hv, h.c.grown hg h.nb, fun e => by have := h.c.lt; rcases hv with hv | hv <;> rw [hv] at e <;> first | exact h.nb e | (injection e with e; omega), h.nx, h.ny, h.nz⟩
theorem VolRG.putX {N : Nat} {w0 w w' : World} {vb vx vy vz : Value} {bs : List Box6} {xs ys zs : List Int} {g : Nat} {B : Box6} {vx' : Value} {xs' : List Int} (h : VolRG N w0 w vb vx vy vz bs xs ys zs g B) (ho : w'.ownsRow N 3 1 vx' xs'.length (xs'.map (Value.int .i64))) (hg : w.grownBy w' vx.ownBlock) (hv : vx'.ownBlock = vx.ownBlock ∨ vx'.ownBlock = some w.heap.size) : VolRG N w0 w' vb vx' vy vz bs xs' ys zs g B :=
 ⟨h.v.putX ho hg hv, h.c.grown hg h.nx, h.nb, fun e => by have := h.c.lt; rcases hv with hv | hv <;> rw [hv] at e <;> first | exact h.nx e | (injection e with e; omega), h.ny, h.nz⟩
theorem VolRG.putY {N : Nat} {w0 w w' : World} {vb vx vy vz : Value} {bs : List Box6} {xs ys zs : List Int} {g : Nat} {B : Box6} {vy' : Value} {ys' : List Int} (h : VolRG N w0 w vb vx vy vz bs xs ys zs g B) (ho : w'.ownsRow N 3 1 vy' ys'.length (ys'.map (Value.int .i64))) (hg : w.grownBy w' vy.ownBlock) (hv : vy'.ownBlock = vy.ownBlock ∨ vy'.ownBlock = some w.heap.size) : VolRG N w0 w' vb vx vy' vz bs xs ys' zs g B :=
 ⟨h.v.putY ho hg hv, h.c.grown hg h.ny, h.nb, h.nx, fun e => by have := h.c.lt; rcases hv with hv | hv <;> rw [hv] at e <;> first | exact h.ny e | (injection e with e; omega), h.nz⟩
theorem VolRG.putZ {N : Nat} {w0 w w' : World} {vb vx vy vz : Value} {bs : List Box6} {xs ys zs : List Int} {g : Nat} {B : Box6} {vz' : Value} {zs' : List Int} (h : VolRG N w0 w vb vx vy vz bs xs ys zs g B) (ho : w'.ownsRow N 3 1 vz' zs'.length (zs'.map (Value.int .i64))) (hg : w.grownBy w' vz.ownBlock) (hv : vz'.ownBlock = vz.ownBlock ∨ vz'.ownBlock = some w.heap.size) : VolRG N w0 w' vb vx vy vz' bs xs ys zs' g B :=
 ⟨h.v.putZ ho hg hv, h.c.grown hg h.nz, h.nb, h.nx, h.ny, fun e => by have := h.c.lt; rcases hv with hv | hv <;> rw [hv] at e <;> first | exact h.nz e | (injection e with e; omega)⟩
structure Tw (w : World) (vx vy vz : Value) (g : Nat) (p q : Int) : Prop where
 t : Two w g p q
 nx : vx.ownBlock ≠ some g
 ny : vy.ownBlock ≠ some g
 nz : vz.ownBlock ≠ some g
theorem Tw.new {N : Nat} {w0 w : World} {vb vx vy vz : Value} {bs : List Box6} {xs ys zs : List Int} {p q : Int} (h : VolR N w0 w vb vx vy vz bs xs ys zs) (T : TypeId) : Tw (w.alloc (.cells #[.int .i64 p, .int .i64 q] T)) vx vy vz w.heap.size p q :=
 ⟨Two.new w p q T, fun e => Nat.lt_irrefl _ (own_lt h.ox e).2, fun e => Nat.lt_irrefl _ (own_lt h.oy e).2, fun e => Nat.lt_irrefl _ (own_lt h.oz e).2⟩
theorem Tw.keep {w w' : World} {vx vy vz : Value} {g : Nat} {p q : Int} (h : Tw w vx vy vz g p q) (hb : Below w.heap.size w w') : Tw w' vx vy vz g p q := ⟨h.t.keep hb, h.nx, h.ny, h.nz⟩
theorem Tw.putX {w w' : World} {vx vy vz vx' : Value} {g : Nat} {p q : Int} (h : Tw w vx vy vz g p q) (hg : w.grownBy w' vx.ownBlock) (hv : vx'.ownBlock = vx.ownBlock ∨ vx'.ownBlock = some w.heap.size) : Tw w' vx' vy vz g p q := ⟨h.t.grown hg h.nx, fun e => by have := h.t.lt; rcases hv with hv | hv <;> rw [hv] at e <;> first | exact h.nx e | (injection e with e; omega), h.ny, h.nz⟩
theorem Tw.putY {w w' : World} {vx vy vz vy' : Value} {g : Nat} {p q : Int} (h : Tw w vx vy vz g p q) (hg : w.grownBy w' vy.ownBlock) (hv : vy'.ownBlock = vy.ownBlock ∨ vy'.ownBlock = some w.heap.size) : Tw w' vx vy' vz g p q := ⟨h.t.grown hg h.ny, h.nx, fun e => by have := h.t.lt; rcases hv with hv | hv <;> rw [hv] at e <;> first | exact h.ny e | (injection e with e; omega), h.nz⟩
def VolCutR (N : Nat) (w1 : World) (vb : Value) (bs : List Box6) (xs ys zs : List Int) (u : Nat → Value) (W : World) : Prop := ∃ vx vy vz, u 5 = vx ∧ u 6 = vy ∧ u 7 = vz ∧ VolR N w1 W vb vx vy vz bs xs ys zs
theorem marksZ_append (l m : List Box6) : marksZ (l ++ m) = marksZ l ++ marksZ m := by unfold marksZ; rw [List.flatMap_append]
theorem marksZ_len (l : List Box6) : (marksZ l).length = 2 * l.length := by
 induction l with
 | nil => rfl
 | cons x l ih => unfold marksZ at *; rw [List.flatMap_cons, List.length_append, ih]; simp; omega
/-- The bounds of one box. -/
theorem one_bounds {l : List Pl} (h : readE l = 0) (hb : (boxO l).isSome = true) : (bndO none (refs [⟨l⟩])).getD box0 = boxV l := by
 obtain ⟨B, hB⟩ := Option.isSome_iff_exists.1 hb
 have e : boxV l = B := by unfold boxV; rw [hB]; rfl
 have hi := box_bd h hB
 obtain ⟨c, hc, -⟩ := hi.x1.2
 have hm : ∀ c, c ∈ refs [⟨l⟩] ↔ c ∈ corn l := fun c => by unfold refs; simp only [List.flatMap_cons, List.flatMap_nil, List.append_nil]; rw [mem_refP]
 obtain ⟨B', h1, h2⟩ := bndO_is (List.ne_nil_of_mem ((hm c).2 hc))
 rw [h1, e]
 exact h2.one hi hm
theorem cells_one {w : World} {pa : Option Addr} {pc : Nat} {ps : List Pl} (hv : Pls.V w pa ps) (hl : ps.length ≤ pc) (hc : pc ≤ 9223372036854775807) : Cells.V (w.alloc (.cells #[.slice pa ps.length pc] 24)) (some ⟨w.heap.size, 0, none⟩) [⟨ps⟩] := fun _ => ⟨w.heap.size, 0, rfl, fun k x hk => by
 have hk0 : k = 0 := by
  cases k with
  | zero => rfl
  | succ k => simp at hk
 subst hk0
 simp at hk
 subst hk
 exact ⟨pa, pc, by simp [go_sem], hv.keep ((Below.refl _ _).alloc (Nat.le_refl _) _), hl, hc, trivial⟩⟩
end Go.Proofs.YtbhgkadklklmbaaGreat
/- The document's volume. -/
set_option linter.unusedVariables false
set_option linter.unusedSimpArgs false
namespace Go.Proofs.YtbhgkadklklmbaaGreat
open Go Go.RowKit Go.Sort Go.Lib

theorem gridX_le {bs : List Box6} {X Y Z : List Int} (h : Grid bs X Y Z) (hok : ∀ b ∈ bs, b.ok) {i : Nat} (hi : i + 1 ≤ X.length) (hy : 1 ≤ Y.length) : 0 ≤ gridX bs X Y Z i ∧ gridX bs X Y Z i ≤ 216000000000000000 := by
 rw [h.xEq hok i hi]
 exact volI_le h.ax (fun z hz => (marks_bd hok).1 z ((h.mx z).1 hz)) h.ay (fun z hz => (marks_bd hok).2.1 z ((h.my z).1 hz)) hy (fun x y => hgt_bd _) hi
theorem gridY_le {bs : List Box6} {X Y Z : List Int} (h : Grid bs X Y Z) (hok : ∀ b ∈ bs, b.ok) {i k : Nat} (hi : i + 1 < X.length) (hk : k + 1 ≤ Y.length) : 0 ≤ gridY bs X Y Z i k ∧ gridY bs X Y Z i k ≤ 216000000000000000 := by
 rw [h.yEq hok hi k hk]
 have hx := next_lt h.ax hi
 have hb := fun j => getD_bd (fun z hz => (marks_bd hok).1 z ((h.mx z).1 hz)) j
 have h1 := hb i
 have h2 := hb (i + 1)
 have h3 := volK_le h.ay (fun z hz => (marks_bd hok).2.1 z ((h.my z).1 hz)) (dx := X.getD (i + 1) 0 - X.getD i 0) (by omega) (h := hAt bs (X.getD i 0)) (fun z => hgt_bd _) hk
 omega
def boxG (x x' y y' z z' : Int) (b : Box6) : Bool := decide (b.x1 ≤ x) && decide (x' ≤ b.x2) && decide (b.y1 ≤ y) && decide (y' ≤ b.y2) && decide (b.z1 ≤ z) && decide (z' ≤ b.z2)
theorem any_take {α : Type} {l : List α} {p : α → Bool} {j : Nat} (hj : j < l.length) : (l.take (j + 1)).any p = ((l.take j).any p || p l[j]) := by
 rw [List.take_succ_eq_append_getElem hj, List.any_append]; simp
theorem any_of_take {α : Type} {l : List α} {p : α → Bool} {j : Nat} (h : (l.take j).any p = true) : l.any p = true := by
 obtain ⟨x, hx, h⟩ := List.any_eq_true.1 h
 exact List.any_eq_true.2 ⟨x, List.mem_of_mem_take hx, h⟩
set_option maxRecDepth 100000 in
set_option maxHeartbeats 32000000 in
theorem volumeR_any (cells : List Cell) (a : Option Addr) (n : Nat) (w : World) (hv : Cells.V w a cells) (hso : solE cells = 0) :
    Calls Tryz.prog 44 #[.agg #[.slice a cells.length n]] w fun e w' => e = .returned (.tuple #[.int .i64 (volV cells), .int .i64 (volE cells)]) ∧ Below w.heap.size w w' := by
 have hmix : Tryz.prog.follows .mixedOrders = true := by kernel_rfl
 obtain ⟨i0, hi0, hz0, hz1, hz2⟩ := info_parts boxInfo
 obtain ⟨i1, hi1, hy0, hy1, hy2⟩ := info_parts intInfo
 obtain ⟨M, hM⟩ : ∃ M, M = volE cells := ⟨_, rfl⟩
 obtain ⟨T, hT⟩ : ∃ T, T = volV cells := ⟨_, rfl⟩
 rw [← hM, ← hT]
 have HM := Lib.hid (show M = if (cells.map (·.planes)).all (fun l => (boxO l).isSome) = true then 0 else 17 by rw [hM]; unfold volE; rw [if_neg (by simpa using hso)])
 have HTV := Lib.hid (show T = if M = 0 then volB ((cells.map (·.planes)).map boxV) else 0 by rw [hT, hM]; rfl)
 have HRE := Lib.hid (solE_zero.1 hso)
 have hcl := HRE.out.1
 have HV := Lib.hid hv
 clear hv hso hM hT
 go_enter Tryz.func44, Tryz.ntmps44
 go_upto_region 1 with fail
 refine gen_world (fun W => W.cell? ⟨w.heap.size, 0, none⟩ = some (.slice a cells.length n) ∧ Below w.heap.size w W) ⟨by simp [go_sem], by repeat (first | (with_reducible assumption) | exact Below.refl _ _ | (refine Below.setCell ?_ (by first | omega | (simp; omega) | (simp; done)) _) | (refine Below.alloc ?_ (by first | omega | (simp; omega) | (simp; done)) _) | (refine Below.drew ?_))⟩ ?_
 rintro W1 ⟨a0, hb⟩
 have HB1 := Lib.hid hb
 clear hb
 obtain ⟨gw, hgw⟩ : ∃ g, g = w.heap.size := ⟨_, rfl⟩
 rw [← hgw] at a0 ⊢
 clear hgw
 go_wp2_with fail
 go_loopw [4, 5, 6, 7, 8] (fun vb vx vy vz iv wr => ∃ (k : Nat) (bs : List Box6), k ≤ cells.length ∧ iv = .int .i64 (k : Int) ∧ VolR W1.heap.size W1 wr vb vx vy vz bs (marksX bs) (marksY bs) (marksZ bs) ∧ Hid (bs = ((cells.take k).map (·.planes)).map boxV) ∧ Hid (((cells.take k).map (·.planes)).all (fun l => (boxO l).isSome) = true)) (fun _ _ _ _ iv _ => cells.length - (intOf iv).toNat)
 case atStart => exact ⟨0, [], Nat.zero_le _, rfl, ⟨⟨rfl, .inl ⟨rfl, rfl⟩⟩, ⟨rfl, .inl ⟨rfl, rfl⟩⟩, ⟨rfl, .inl ⟨rfl, rfl⟩⟩, ⟨rfl, .inl ⟨rfl, rfl⟩⟩, (fun g h => by cases h), (fun g h => by cases h), (fun g h => by cases h), (fun g h => by cases h), (fun g h => by cases h), (fun g h => by cases h), Below.refl _ _, Nat.le_refl _⟩, Lib.hid rfl, Lib.hid rfl⟩
 case round =>
  obtain ⟨k, bs, hk, rfl, hst, HBS, HAL⟩ := hrel
  have HST := Lib.hid hst
  obtain ⟨ba, bc, rfl, -, -⟩ := own_slice hst.ob
  obtain ⟨xa, xc, rfl, -, -⟩ := own_slice hst.ox
  obtain ⟨ya, yc, rfl, -, -⟩ := own_slice hst.oy
  obtain ⟨za, zc, rfl, -, -⟩ := own_slice hst.oz
  have HBL := Lib.hid (show bs.length ≤ 100 by rw [HBS.out, List.length_map, List.length_map, List.length_take]; omega)
  have a1 := cell_keep hst.b a0
  have HBWR := Lib.hid (HB1.out.trans (hst.b.mono HB1.out.size))
  by_cases hlt : k < cells.length
  ·have hki : (k : Int) < (cells.length : Int) := by omega
   obtain ⟨cb, off, rfl, hat⟩ := (HV.out.keep HBWR.out).at_ hlt
   have HTK := Lib.hid (show (cells.take (k + 1)) = cells.take k ++ [cells[k]] from List.take_succ_eq_append_getElem hlt)
   have HRX := Lib.hid (HRE.out.2 _ (List.getElem_mem hlt))
   have HMEM := Lib.hid (show cells[k] ∈ cells from List.getElem_mem hlt)
   generalize cells[k] = x at *
   obtain ⟨ps⟩ := x
   simp only at hat HRX HTK HMEM
   obtain ⟨pa, pc, c0, hp, hpl, hpc, -⟩ := hat
   simp only [Nat.mul_one] at c0 hp hpl
   have HPV := Lib.hid hp
   have hl16 := (readE_zero.1 HRX.out).1
   have HIB := Lib.hid (fun W (h : Below wr.heap.size wr W) => isBoxR_any ps pa pc W (good_of (readE_zero.1 HRX.out).2.1) (by omega) (HPV.out.keep h))
   rw [isBox_iff] at HIB
   clear hst hp
   cases hE : (boxO ps).isSome with
   | true =>
    rw [hE] at HIB
    have HOS := Lib.hid hE
    clear hE
    obtain ⟨B, hB⟩ : ∃ B, B = boxV ps := ⟨_, rfl⟩
    have HBV := Lib.hid hB
    have HBD := Lib.hid (fun W a (h : Cells.V W a [⟨ps⟩]) => (show Calls Tryz.prog 49 #[.agg #[.slice a 1 1]] W fun e w' => e = .returned (.agg #[.int .i64 B.x1, .int .i64 B.y1, .int .i64 B.z1, .int .i64 B.x2, .int .i64 B.y2, .int .i64 B.z2]) ∧ Below W.heap.size W w' by
     have h2 := boundsR_any [⟨ps⟩] a 1 W (by simp) h (solE_zero.2 ⟨by simp, fun c hc => by rw [List.mem_singleton] at hc; subst hc; exact HRX.out⟩)
     rw [one_bounds HRX.out HOS.out, ← hB] at h2
     exact h2))
    clear hB
    go_upto_region 8 with (go_at_call 102; refine (HIB.out _ (Below.refl _ _)).mono ?_; rintro e w2 ⟨rfl, hb⟩; have a1 := cell_keep hb a1; have c0 := cell_keep hb c0; have HPV := Lib.hid (HPV.out.keep hb); have HB2 := Lib.hid hb; clear hb)
    go_upto_region 9 with (go_at_call 49; refine (HBD.out _ _ (cells_one HPV.out hpl hpc)).mono ?_; rintro e w3 ⟨rfl, hb⟩; have hb := ((Below.refl _ _).alloc (Nat.le_refl _) _).trans (hb.mono (by simp)); have a1 := cell_keep hb a1; have HB3 := Lib.hid (HB2.out.trans (hb.mono HB2.out.size)); clear hb)
    refine gen_world (fun W4 => BxC W4 w3.heap.size B.at_ ∧ Below w3.heap.size w3 W4) ⟨?_, by repeat (first | (with_reducible assumption) | exact Below.refl _ _ | (refine Below.setCell ?_ (by first | omega | (simp; omega) | (simp; done)) _) | (refine Below.alloc ?_ (by first | omega | (simp; omega) | (simp; done)) _) | (refine Below.drew ?_))⟩ ?_
    ·intro t ht
     match t, ht with
     | 0, _ => exact ⟨by simp [go_sem, Box6.at_], by simp [go_sem]⟩
     | 1, _ => exact ⟨by simp [go_sem, Box6.at_], by simp [go_sem]⟩
     | 2, _ => exact ⟨by simp [go_sem, Box6.at_], by simp [go_sem]⟩
     | 3, _ => exact ⟨by simp [go_sem, Box6.at_], by simp [go_sem]⟩
     | 4, _ => exact ⟨by simp [go_sem, Box6.at_], by simp [go_sem]⟩
     | 5, _ => exact ⟨by simp [go_sem, Box6.at_], by simp [go_sem]⟩
    rintro W4 ⟨hbx4, hb4⟩
    have HB4 := Lib.hid (show Below wr.heap.size wr W4 from HB3.out.trans (hb4.mono HB3.out.size))
    have HSG := Lib.hid (show VolRG W1.heap.size W1 W4 (.slice ba bs.length bc) (.slice xa (marksX bs).length xc) (.slice ya (marksY bs).length yc) (.slice za (marksZ bs).length zc) bs (marksX bs) (marksY bs) (marksZ bs) w3.heap.size B from
     ⟨HST.out.keep HB4.out, hbx4, fun e => by have := (own_lt HST.out.ob e).2; have := HB3.out.size; omega, fun e => by have := (own_lt HST.out.ox e).2; have := HB3.out.size; omega, fun e => by have := (own_lt HST.out.oy e).2; have := HB3.out.size; omega, fun e => by have := (own_lt HST.out.oz e).2; have := HB3.out.size; omega⟩)
    clear hbx4 hb4 a1 c0 HIB HBD
    obtain ⟨g11, hg11⟩ : ∃ g, g = w3.heap.size := ⟨_, rfl⟩
    rw [← hg11] at HSG ⊢
    clear hg11
    have HXL := Lib.hid (show (marksX bs).length ≤ 200 by have := HBL.out; rw [marksX_len]; omega)
    have HYL := Lib.hid (show (marksY bs).length ≤ 200 by have := HBL.out; rw [marksY_len]; omega)
    have HZL := Lib.hid (show (marksZ bs).length ≤ 200 by have := HBL.out; rw [marksZ_len]; omega)
    have HBS2 := Lib.hid (show bs ++ [B] = ((cells.take (k + 1)).map (·.planes)).map boxV by rw [HTK.out, List.map_append, List.map_append, ← HBS.out, HBV.out]; rfl)
    have HAL2 := Lib.hid (show ((cells.take (k + 1)).map (·.planes)).all (fun l => (boxO l).isSome) = true by rw [HTK.out, List.map_append, List.all_append, HAL.out]; simp [HOS.out])
    have HMX := Lib.hid (show marksX (bs ++ [B]) = marksX bs ++ [B.x1, B.x2] by rw [marksX_append]; rfl)
    have HMY := Lib.hid (show marksY (bs ++ [B]) = marksY bs ++ [B.y1, B.y2] by rw [marksY_append]; rfl)
    have HMZ := Lib.hid (show marksZ (bs ++ [B]) = marksZ bs ++ [B.z1, B.z2] by rw [marksZ_append]; rfl)
    generalize marksX bs = xs at *
    generalize marksY bs = ys at *
    generalize marksZ bs = zs at *
    have HSA := Lib.hid (HSG.out.keep ((Below.refl W4.heap.size W4).alloc (Nat.le_refl _) (.cells #[.int .i64 B.x1, .int .i64 B.y1, .int .i64 B.z1, .int .i64 B.x2, .int .i64 B.y2, .int .i64 B.z2] 75)))
    have HNW := Lib.hid (show ∀ j u, (cellsBx B)[j]? = some u → (W4.alloc (.cells #[.int .i64 B.x1, .int .i64 B.y1, .int .i64 B.z1, .int .i64 B.x2, .int .i64 B.y2, .int .i64 B.z2] 75)).cell? ((⟨W4.heap.size, 0, none⟩ : Addr).add j) = some u from news_of (cellsBx B) 75 W4 _ rfl)
    obtain ⟨q0, q1, q2, q3, q4, q5⟩ : (W4.cell? ⟨g11, 0, none⟩ = some (.int .i64 B.x1) ∧ W4.cell? ⟨g11, 1, none⟩ = some (.int .i64 B.y1) ∧ W4.cell? ⟨g11, 2, none⟩ = some (.int .i64 B.z1) ∧ W4.cell? ⟨g11, 3, none⟩ = some (.int .i64 B.x2) ∧ W4.cell? ⟨g11, 4, none⟩ = some (.int .i64 B.y2) ∧ W4.cell? ⟨g11, 5, none⟩ = some (.int .i64 B.z2)) := ⟨(HSG.out.c 0 (by decide)).1, (HSG.out.c 1 (by decide)).1, (HSG.out.c 2 (by decide)).1, (HSG.out.c 3 (by decide)).1, (HSG.out.c 4 (by decide)).1, (HSG.out.c 5 (by decide)).1⟩
    go_upto_region 10 with (at_builtin; refine wpList_append_here _ rfl _ _ 146 rfl W1.heap.size 75 i0 (.agg #[.int .i64 0, .int .i64 0, .int .i64 0, .int .i64 0, .int .i64 0, .int .i64 0]) 6 48 Tryz.underlying146 hi0 hz0 hz1 hz2 rfl (by decide) (.slice ba bs.length bc) bs.length (bs.flatMap cellsBx) rfl HSA.out.v.ob ⟨W4.heap.size, 0, none⟩ 1 1 (cellsBx B) rfl rfl HNW.out (cellsBx_one B) (by decide) (by have := HBL.out; simp only [maxLen]; omega) (by have := HBL.out; omega) HSA.out.v.n ?_; intro v' w5 ho hg hat; obtain ⟨ba', bc', rfl, -, -⟩ := own_slice ho; have HSB := Lib.hid (HSA.out.putB (bs' := bs ++ [B]) (by rw [List.flatMap_append, List.length_append]; simpa using ho) hg hat); clear ho hg hat)
    refine wp_cut_slots [43, 44, 45, 46, 47, 48, 49, 50, 51, 52, 53, 54, 55, 56, 57, 58, 59, 60, 61, 62, 63, 5, 6, 7] (VolCutR W1.heap.size W1 (.slice ba' (bs.length + 1) bc') (bs ++ [B]) (xs ++ [B.x1, B.x2]) (ys ++ [B.y1, B.y2]) (zs ++ [B.z1, B.z2])) ?_ ?_
    ·have kx0 : ∀ y : KW (fun W' => BxC W' g11 B.at_), (y.w.cell? ⟨g11, 0, none⟩ = some (.int .i64 B.x1) ∧ y.w.cell? ⟨g11, 1, none⟩ = some (.int .i64 B.y1) ∧ y.w.cell? ⟨g11, 2, none⟩ = some (.int .i64 B.z1) ∧ y.w.cell? ⟨g11, 3, none⟩ = some (.int .i64 B.x2) ∧ y.w.cell? ⟨g11, 4, none⟩ = some (.int .i64 B.y2) ∧ y.w.cell? ⟨g11, 5, none⟩ = some (.int .i64 B.z2)) := fun y => ⟨(y.ok 0 (by decide)).1, (y.ok 1 (by decide)).1, (y.ok 2 (by decide)).1, (y.ok 3 (by decide)).1, (y.ok 4 (by decide)).1, (y.ok 5 (by decide)).1⟩
     haveI n1 : Nonempty (KW (fun W' => BxC W' g11 B.at_)) := ⟨⟨w5, HSB.out.c⟩⟩
     refine wp_region_tree (fun w' => ∃ y : KW (fun W' => BxC W' g11 B.at_), w' = y.w) 20 (.take 0 (.take 1 (.take 2 (.take 3 (.take 4 (.take 7 (.take 8 (.take 9 (.take 10 (.take 11 (.take 14 (.take 15 (.take 16 (.take 17 (.take 18 (.three 5 (.three 6 (.two 12 (.two 13 (.one 19 .done) 19 (.one 13 .done)) 19 (.one 12 (.one 13 .done))) 12 (.two 6 (.two 13 (.one 19 .done) 19 (.one 13 .done)) 19 (.one 6 (.one 13 .done))) 19 (.two 6 (.one 12 (.one 13 .done)) 12 (.one 6 (.one 13 .done)))) 12 (.two 5 (.two 6 (.two 13 (.one 19 .done) 19 (.one 13 .done)) 19 (.one 6 (.one 13 .done))) 19 (.one 5 (.one 6 (.one 13 .done)))) 19 (.two 5 (.two 6 (.one 12 (.one 13 .done)) 12 (.one 6 (.one 13 .done))) 12 (.one 5 (.one 6 (.one 13 .done)))))))))))))))))))) hmix (by kernel_rfl) (KW.mk' (HSB.out.keep (Below.refl _ _).drew).c) ?_
     have HS := Lib.hid (HSB.out.keep (Below.refl _ _).drew)
     clear q0 q1 q2 q3 q4 q5 HSA HSB HSG HNW
     generalize w5.drew = wz at *
     (refine wpTree_take ?_; simp only [nthOp]; (first | go_big_quiet_step (fail) | quiet_step (fail)); refine wpQuiet_nil ?_)
     (refine wpTree_take ?_; simp only [nthOp]; (first | go_big_quiet_step (fail) | quiet_step (fail)); refine wpQuiet_nil ?_)
     (refine wpTree_take ?_; simp only [nthOp]; (first | go_big_quiet_step (fail) | quiet_step (fail)); refine wpQuiet_nil ?_)
     (refine wpTree_take ?_; simp only [nthOp]; (first | go_big_quiet_step (fail) | quiet_step (fail)); refine wpQuiet_nil ?_)
     (refine wpTree_take ?_; simp only [nthOp]; (first | go_big_quiet_step (fail) | quiet_step (fail)); refine wpQuiet_nil ?_)
     (refine wpTree_take ?_; simp only [nthOp]; (first | go_big_quiet_step (fail) | quiet_step (fail)); refine wpQuiet_nil ?_)
     (refine wpTree_take ?_; simp only [nthOp]; (first | go_big_quiet_step (fail) | quiet_step (fail)); refine wpQuiet_nil ?_)
     (refine wpTree_take ?_; simp only [nthOp]; (first | go_big_quiet_step (fail) | quiet_step (fail)); refine wpQuiet_nil ?_)
     (refine wpTree_take ?_; simp only [nthOp]; (first | go_big_quiet_step (fail) | quiet_step (fail)); refine wpQuiet_nil ?_)
     (refine wpTree_take ?_; simp only [nthOp]; (first | go_big_quiet_step (fail) | quiet_step (fail)); refine wpQuiet_nil ?_)
     (refine wpTree_take ?_; simp only [nthOp]; (first | go_big_quiet_step (fail) | quiet_step (fail)); refine wpQuiet_nil ?_)
     (refine wpTree_take ?_; simp only [nthOp]; (first | go_big_quiet_step (fail) | quiet_step (fail)); refine wpQuiet_nil ?_)
     (refine wpTree_take ?_; simp only [nthOp]; (first | go_big_quiet_step (fail) | quiet_step (fail)); refine wpQuiet_nil ?_)
     (refine wpTree_take ?_; simp only [nthOp]; (first | go_big_quiet_step (fail) | quiet_step (fail)); refine wpQuiet_nil ?_)
     (refine wpTree_take ?_; simp only [nthOp]; (first | go_big_quiet_step (fail) | quiet_step (fail)); refine wpQuiet_nil ?_)
     refine wpTree_three ?_ ?_ ?_
     ·skip
      simp only [nthOp]
      go_wp2_with fail
      have TX := Lib.hid (Tw.new (p := B.x1) (q := B.x2) HS.out.v 3)
      have HS := Lib.hid (HS.out.keep ((Below.refl wz.heap.size wz).alloc (Nat.le_refl _) (.cells #[.int .i64 B.x1, .int .i64 B.x2] 3)))
      refine One_mk (KW.mk' HS.out.c) ?_
      generalize (wz.alloc (.cells #[.int .i64 B.x1, .int .i64 B.x2] 3)) = wt1 at *
      generalize wz.heap.size = gx at *
      refine wpTree_three ?_ ?_ ?_
      ·skip
       simp only [nthOp]
       go_wp2_with (at_builtin; refine wpList_append_here _ rfl _ _ 147 rfl W1.heap.size 3 i1 (.int .i64 0) 1 8 Tryz.underlying147 hi1 hy0 hy1 hy2 rfl (by decide) (.slice xa xs.length xc) xs.length (xs.map (Value.int .i64)) rfl HS.out.v.ox ⟨gx, 0, none⟩ 2 2 [.int .i64 B.x1, .int .i64 B.x2] rfl rfl TX.out.t (two_one _ _) (by decide) (by have := HXL.out; simp only [maxLen]; omega) (by have := HXL.out; omega) HS.out.v.n ?_; intro v' wt2 ho hg hat; obtain ⟨xa', xc', rfl, -, -⟩ := own_slice ho; have HS := Lib.hid (HS.out.putX (xs' := xs ++ [B.x1, B.x2]) (by rw [ints_two, List.length_append]; exact ho) hg hat); clear ho hg hat)
       refine One_mk (KW.mk' HS.out.c) ?_
       refine wpTree_two ?_ ?_
       ·skip
        simp only [nthOp]
        go_wp2_with fail
        have TY := Lib.hid (Tw.new (p := B.y1) (q := B.y2) HS.out.v 3)
        have HS := Lib.hid (HS.out.keep ((Below.refl wt2.heap.size wt2).alloc (Nat.le_refl _) (.cells #[.int .i64 B.y1, .int .i64 B.y2] 3)))
        refine One_mk (KW.mk' HS.out.c) ?_
        generalize (wt2.alloc (.cells #[.int .i64 B.y1, .int .i64 B.y2] 3)) = wt3 at *
        generalize wt2.heap.size = gy at *
        refine wpTree_two ?_ ?_
        ·skip
         simp only [nthOp]
         go_wp2_with (at_builtin; refine wpList_append_here _ rfl _ _ 147 rfl W1.heap.size 3 i1 (.int .i64 0) 1 8 Tryz.underlying147 hi1 hy0 hy1 hy2 rfl (by decide) (.slice ya ys.length yc) ys.length (ys.map (Value.int .i64)) rfl HS.out.v.oy ⟨gy, 0, none⟩ 2 2 [.int .i64 B.y1, .int .i64 B.y2] rfl rfl TY.out.t (two_one _ _) (by decide) (by have := HYL.out; simp only [maxLen]; omega) (by have := HYL.out; omega) HS.out.v.n ?_; intro v' wt4 ho hg hat; obtain ⟨ya', yc', rfl, -, -⟩ := own_slice ho; have HS := Lib.hid (HS.out.putY (ys' := ys ++ [B.y1, B.y2]) (by rw [ints_two, List.length_append]; exact ho) hg hat); clear ho hg hat)
         refine One_mk (KW.mk' HS.out.c) ?_
         refine wpTree_one ?_
         simp only [nthOp]
         go_wp2_with fail
         have TZ := Lib.hid (Tw.new (p := B.z1) (q := B.z2) HS.out.v 3)
         have HS := Lib.hid (HS.out.keep ((Below.refl wt4.heap.size wt4).alloc (Nat.le_refl _) (.cells #[.int .i64 B.z1, .int .i64 B.z2] 3)))
         refine One_mk (KW.mk' HS.out.c) ?_
         generalize (wt4.alloc (.cells #[.int .i64 B.z1, .int .i64 B.z2] 3)) = wt5 at *
         generalize wt4.heap.size = gz at *
         refine wpTree_done ?_
         simp only [List.drop_succ_cons, List.drop_zero]
         go_wp2_with (at_builtin; refine wpList_append_here _ rfl _ _ 147 rfl W1.heap.size 3 i1 (.int .i64 0) 1 8 Tryz.underlying147 hi1 hy0 hy1 hy2 rfl (by decide) (.slice za zs.length zc) zs.length (zs.map (Value.int .i64)) rfl HS.out.v.oz ⟨gz, 0, none⟩ 2 2 [.int .i64 B.z1, .int .i64 B.z2] rfl rfl TZ.out.t (two_one _ _) (by decide) (by have := HZL.out; simp only [maxLen]; omega) (by have := HZL.out; omega) HS.out.v.n ?_; intro v' wl ho hg hat; obtain ⟨za', zc', rfl, -, -⟩ := own_slice ho; have HS := Lib.hid (HS.out.putZ (zs' := zs ++ [B.z1, B.z2]) (by rw [ints_two, List.length_append]; exact ho) hg hat); clear ho hg hat)
         refine NP_mk ?_
         exact cut_meet (by simp [forget]) ⟨_, _, _, rfl, rfl, rfl, HS.out.v⟩
        ·skip
         simp only [nthOp]
         go_wp2_with fail
         have TY := Lib.hid (TY.out.keep ((Below.refl wt3.heap.size wt3).alloc (Nat.le_refl _) (.cells #[.int .i64 B.z1, .int .i64 B.z2] 3)))
         have TZ := Lib.hid (Tw.new (p := B.z1) (q := B.z2) HS.out.v 3)
         have HS := Lib.hid (HS.out.keep ((Below.refl wt3.heap.size wt3).alloc (Nat.le_refl _) (.cells #[.int .i64 B.z1, .int .i64 B.z2] 3)))
         refine One_mk (KW.mk' HS.out.c) ?_
         generalize (wt3.alloc (.cells #[.int .i64 B.z1, .int .i64 B.z2] 3)) = wt6 at *
         generalize wt3.heap.size = gz at *
         refine wpTree_one ?_
         simp only [nthOp]
         go_wp2_with (at_builtin; refine wpList_append_here _ rfl _ _ 147 rfl W1.heap.size 3 i1 (.int .i64 0) 1 8 Tryz.underlying147 hi1 hy0 hy1 hy2 rfl (by decide) (.slice ya ys.length yc) ys.length (ys.map (Value.int .i64)) rfl HS.out.v.oy ⟨gy, 0, none⟩ 2 2 [.int .i64 B.y1, .int .i64 B.y2] rfl rfl TY.out.t (two_one _ _) (by decide) (by have := HYL.out; simp only [maxLen]; omega) (by have := HYL.out; omega) HS.out.v.n ?_; intro v' wt7 ho hg hat; obtain ⟨ya', yc', rfl, -, -⟩ := own_slice ho; have TZ := Lib.hid (TZ.out.putY hg hat); have HS := Lib.hid (HS.out.putY (ys' := ys ++ [B.y1, B.y2]) (by rw [ints_two, List.length_append]; exact ho) hg hat); clear ho hg hat)
         refine One_mk (KW.mk' HS.out.c) ?_
         refine wpTree_done ?_
         simp only [List.drop_succ_cons, List.drop_zero]
         go_wp2_with (at_builtin; refine wpList_append_here _ rfl _ _ 147 rfl W1.heap.size 3 i1 (.int .i64 0) 1 8 Tryz.underlying147 hi1 hy0 hy1 hy2 rfl (by decide) (.slice za zs.length zc) zs.length (zs.map (Value.int .i64)) rfl HS.out.v.oz ⟨gz, 0, none⟩ 2 2 [.int .i64 B.z1, .int .i64 B.z2] rfl rfl TZ.out.t (two_one _ _) (by decide) (by have := HZL.out; simp only [maxLen]; omega) (by have := HZL.out; omega) HS.out.v.n ?_; intro v' wl ho hg hat; obtain ⟨za', zc', rfl, -, -⟩ := own_slice ho; have HS := Lib.hid (HS.out.putZ (zs' := zs ++ [B.z1, B.z2]) (by rw [ints_two, List.length_append]; exact ho) hg hat); clear ho hg hat)
         refine NP_mk ?_
         exact cut_meet (by simp [forget]) ⟨_, _, _, rfl, rfl, rfl, HS.out.v⟩
       ·skip
        simp only [nthOp]
        go_wp2_with fail
        have TZ := Lib.hid (Tw.new (p := B.z1) (q := B.z2) HS.out.v 3)
        have HS := Lib.hid (HS.out.keep ((Below.refl wt2.heap.size wt2).alloc (Nat.le_refl _) (.cells #[.int .i64 B.z1, .int .i64 B.z2] 3)))
        refine One_mk (KW.mk' HS.out.c) ?_
        generalize (wt2.alloc (.cells #[.int .i64 B.z1, .int .i64 B.z2] 3)) = wt8 at *
        generalize wt2.heap.size = gz at *
        refine wpTree_one ?_
        simp only [nthOp]
        go_wp2_with fail
        have TZ := Lib.hid (TZ.out.keep ((Below.refl wt8.heap.size wt8).alloc (Nat.le_refl _) (.cells #[.int .i64 B.y1, .int .i64 B.y2] 3)))
        have TY := Lib.hid (Tw.new (p := B.y1) (q := B.y2) HS.out.v 3)
        have HS := Lib.hid (HS.out.keep ((Below.refl wt8.heap.size wt8).alloc (Nat.le_refl _) (.cells #[.int .i64 B.y1, .int .i64 B.y2] 3)))
        refine One_mk (KW.mk' HS.out.c) ?_
        generalize (wt8.alloc (.cells #[.int .i64 B.y1, .int .i64 B.y2] 3)) = wt9 at *
        generalize wt8.heap.size = gy at *
        refine wpTree_one ?_
        simp only [nthOp]
        go_wp2_with (at_builtin; refine wpList_append_here _ rfl _ _ 147 rfl W1.heap.size 3 i1 (.int .i64 0) 1 8 Tryz.underlying147 hi1 hy0 hy1 hy2 rfl (by decide) (.slice ya ys.length yc) ys.length (ys.map (Value.int .i64)) rfl HS.out.v.oy ⟨gy, 0, none⟩ 2 2 [.int .i64 B.y1, .int .i64 B.y2] rfl rfl TY.out.t (two_one _ _) (by decide) (by have := HYL.out; simp only [maxLen]; omega) (by have := HYL.out; omega) HS.out.v.n ?_; intro v' wt10 ho hg hat; obtain ⟨ya', yc', rfl, -, -⟩ := own_slice ho; have TZ := Lib.hid (TZ.out.putY hg hat); have HS := Lib.hid (HS.out.putY (ys' := ys ++ [B.y1, B.y2]) (by rw [ints_two, List.length_append]; exact ho) hg hat); clear ho hg hat)
        refine One_mk (KW.mk' HS.out.c) ?_
        refine wpTree_done ?_
        simp only [List.drop_succ_cons, List.drop_zero]
        go_wp2_with (at_builtin; refine wpList_append_here _ rfl _ _ 147 rfl W1.heap.size 3 i1 (.int .i64 0) 1 8 Tryz.underlying147 hi1 hy0 hy1 hy2 rfl (by decide) (.slice za zs.length zc) zs.length (zs.map (Value.int .i64)) rfl HS.out.v.oz ⟨gz, 0, none⟩ 2 2 [.int .i64 B.z1, .int .i64 B.z2] rfl rfl TZ.out.t (two_one _ _) (by decide) (by have := HZL.out; simp only [maxLen]; omega) (by have := HZL.out; omega) HS.out.v.n ?_; intro v' wl ho hg hat; obtain ⟨za', zc', rfl, -, -⟩ := own_slice ho; have HS := Lib.hid (HS.out.putZ (zs' := zs ++ [B.z1, B.z2]) (by rw [ints_two, List.length_append]; exact ho) hg hat); clear ho hg hat)
        refine NP_mk ?_
        exact cut_meet (by simp [forget]) ⟨_, _, _, rfl, rfl, rfl, HS.out.v⟩
      ·skip
       simp only [nthOp]
       go_wp2_with fail
       have TX := Lib.hid (TX.out.keep ((Below.refl wt1.heap.size wt1).alloc (Nat.le_refl _) (.cells #[.int .i64 B.y1, .int .i64 B.y2] 3)))
       have TY := Lib.hid (Tw.new (p := B.y1) (q := B.y2) HS.out.v 3)
       have HS := Lib.hid (HS.out.keep ((Below.refl wt1.heap.size wt1).alloc (Nat.le_refl _) (.cells #[.int .i64 B.y1, .int .i64 B.y2] 3)))
       refine One_mk (KW.mk' HS.out.c) ?_
       generalize (wt1.alloc (.cells #[.int .i64 B.y1, .int .i64 B.y2] 3)) = wt11 at *
       generalize wt1.heap.size = gy at *
       refine wpTree_two ?_ ?_
       ·skip
        simp only [nthOp]
        go_wp2_with (at_builtin; refine wpList_append_here _ rfl _ _ 147 rfl W1.heap.size 3 i1 (.int .i64 0) 1 8 Tryz.underlying147 hi1 hy0 hy1 hy2 rfl (by decide) (.slice xa xs.length xc) xs.length (xs.map (Value.int .i64)) rfl HS.out.v.ox ⟨gx, 0, none⟩ 2 2 [.int .i64 B.x1, .int .i64 B.x2] rfl rfl TX.out.t (two_one _ _) (by decide) (by have := HXL.out; simp only [maxLen]; omega) (by have := HXL.out; omega) HS.out.v.n ?_; intro v' wt12 ho hg hat; obtain ⟨xa', xc', rfl, -, -⟩ := own_slice ho; have TY := Lib.hid (TY.out.putX hg hat); have HS := Lib.hid (HS.out.putX (xs' := xs ++ [B.x1, B.x2]) (by rw [ints_two, List.length_append]; exact ho) hg hat); clear ho hg hat)
        refine One_mk (KW.mk' HS.out.c) ?_
        refine wpTree_two ?_ ?_
        ·skip
         simp only [nthOp]
         go_wp2_with (at_builtin; refine wpList_append_here _ rfl _ _ 147 rfl W1.heap.size 3 i1 (.int .i64 0) 1 8 Tryz.underlying147 hi1 hy0 hy1 hy2 rfl (by decide) (.slice ya ys.length yc) ys.length (ys.map (Value.int .i64)) rfl HS.out.v.oy ⟨gy, 0, none⟩ 2 2 [.int .i64 B.y1, .int .i64 B.y2] rfl rfl TY.out.t (two_one _ _) (by decide) (by have := HYL.out; simp only [maxLen]; omega) (by have := HYL.out; omega) HS.out.v.n ?_; intro v' wt13 ho hg hat; obtain ⟨ya', yc', rfl, -, -⟩ := own_slice ho; have HS := Lib.hid (HS.out.putY (ys' := ys ++ [B.y1, B.y2]) (by rw [ints_two, List.length_append]; exact ho) hg hat); clear ho hg hat)
         refine One_mk (KW.mk' HS.out.c) ?_
         refine wpTree_one ?_
         simp only [nthOp]
         go_wp2_with fail
         have TZ := Lib.hid (Tw.new (p := B.z1) (q := B.z2) HS.out.v 3)
         have HS := Lib.hid (HS.out.keep ((Below.refl wt13.heap.size wt13).alloc (Nat.le_refl _) (.cells #[.int .i64 B.z1, .int .i64 B.z2] 3)))
         refine One_mk (KW.mk' HS.out.c) ?_
         generalize (wt13.alloc (.cells #[.int .i64 B.z1, .int .i64 B.z2] 3)) = wt14 at *
         generalize wt13.heap.size = gz at *
         refine wpTree_done ?_
         simp only [List.drop_succ_cons, List.drop_zero]
         go_wp2_with (at_builtin; refine wpList_append_here _ rfl _ _ 147 rfl W1.heap.size 3 i1 (.int .i64 0) 1 8 Tryz.underlying147 hi1 hy0 hy1 hy2 rfl (by decide) (.slice za zs.length zc) zs.length (zs.map (Value.int .i64)) rfl HS.out.v.oz ⟨gz, 0, none⟩ 2 2 [.int .i64 B.z1, .int .i64 B.z2] rfl rfl TZ.out.t (two_one _ _) (by decide) (by have := HZL.out; simp only [maxLen]; omega) (by have := HZL.out; omega) HS.out.v.n ?_; intro v' wl ho hg hat; obtain ⟨za', zc', rfl, -, -⟩ := own_slice ho; have HS := Lib.hid (HS.out.putZ (zs' := zs ++ [B.z1, B.z2]) (by rw [ints_two, List.length_append]; exact ho) hg hat); clear ho hg hat)
         refine NP_mk ?_
         exact cut_meet (by simp [forget]) ⟨_, _, _, rfl, rfl, rfl, HS.out.v⟩
        ·skip
         simp only [nthOp]
         go_wp2_with fail
         have TY := Lib.hid (TY.out.keep ((Below.refl wt12.heap.size wt12).alloc (Nat.le_refl _) (.cells #[.int .i64 B.z1, .int .i64 B.z2] 3)))
         have TZ := Lib.hid (Tw.new (p := B.z1) (q := B.z2) HS.out.v 3)
         have HS := Lib.hid (HS.out.keep ((Below.refl wt12.heap.size wt12).alloc (Nat.le_refl _) (.cells #[.int .i64 B.z1, .int .i64 B.z2] 3)))
         refine One_mk (KW.mk' HS.out.c) ?_
         generalize (wt12.alloc (.cells #[.int .i64 B.z1, .int .i64 B.z2] 3)) = wt15 at *
         generalize wt12.heap.size = gz at *
         refine wpTree_one ?_
         simp only [nthOp]
         go_wp2_with (at_builtin; refine wpList_append_here _ rfl _ _ 147 rfl W1.heap.size 3 i1 (.int .i64 0) 1 8 Tryz.underlying147 hi1 hy0 hy1 hy2 rfl (by decide) (.slice ya ys.length yc) ys.length (ys.map (Value.int .i64)) rfl HS.out.v.oy ⟨gy, 0, none⟩ 2 2 [.int .i64 B.y1, .int .i64 B.y2] rfl rfl TY.out.t (two_one _ _) (by decide) (by have := HYL.out; simp only [maxLen]; omega) (by have := HYL.out; omega) HS.out.v.n ?_; intro v' wt16 ho hg hat; obtain ⟨ya', yc', rfl, -, -⟩ := own_slice ho; have TZ := Lib.hid (TZ.out.putY hg hat); have HS := Lib.hid (HS.out.putY (ys' := ys ++ [B.y1, B.y2]) (by rw [ints_two, List.length_append]; exact ho) hg hat); clear ho hg hat)
         refine One_mk (KW.mk' HS.out.c) ?_
         refine wpTree_done ?_
         simp only [List.drop_succ_cons, List.drop_zero]
         go_wp2_with (at_builtin; refine wpList_append_here _ rfl _ _ 147 rfl W1.heap.size 3 i1 (.int .i64 0) 1 8 Tryz.underlying147 hi1 hy0 hy1 hy2 rfl (by decide) (.slice za zs.length zc) zs.length (zs.map (Value.int .i64)) rfl HS.out.v.oz ⟨gz, 0, none⟩ 2 2 [.int .i64 B.z1, .int .i64 B.z2] rfl rfl TZ.out.t (two_one _ _) (by decide) (by have := HZL.out; simp only [maxLen]; omega) (by have := HZL.out; omega) HS.out.v.n ?_; intro v' wl ho hg hat; obtain ⟨za', zc', rfl, -, -⟩ := own_slice ho; have HS := Lib.hid (HS.out.putZ (zs' := zs ++ [B.z1, B.z2]) (by rw [ints_two, List.length_append]; exact ho) hg hat); clear ho hg hat)
         refine NP_mk ?_
         exact cut_meet (by simp [forget]) ⟨_, _, _, rfl, rfl, rfl, HS.out.v⟩
       ·skip
        simp only [nthOp]
        go_wp2_with fail
        have TX := Lib.hid (TX.out.keep ((Below.refl wt11.heap.size wt11).alloc (Nat.le_refl _) (.cells #[.int .i64 B.z1, .int .i64 B.z2] 3)))
        have TY := Lib.hid (TY.out.keep ((Below.refl wt11.heap.size wt11).alloc (Nat.le_refl _) (.cells #[.int .i64 B.z1, .int .i64 B.z2] 3)))
        have TZ := Lib.hid (Tw.new (p := B.z1) (q := B.z2) HS.out.v 3)
        have HS := Lib.hid (HS.out.keep ((Below.refl wt11.heap.size wt11).alloc (Nat.le_refl _) (.cells #[.int .i64 B.z1, .int .i64 B.z2] 3)))
        refine One_mk (KW.mk' HS.out.c) ?_
        generalize (wt11.alloc (.cells #[.int .i64 B.z1, .int .i64 B.z2] 3)) = wt17 at *
        generalize wt11.heap.size = gz at *
        refine wpTree_one ?_
        simp only [nthOp]
        go_wp2_with (at_builtin; refine wpList_append_here _ rfl _ _ 147 rfl W1.heap.size 3 i1 (.int .i64 0) 1 8 Tryz.underlying147 hi1 hy0 hy1 hy2 rfl (by decide) (.slice xa xs.length xc) xs.length (xs.map (Value.int .i64)) rfl HS.out.v.ox ⟨gx, 0, none⟩ 2 2 [.int .i64 B.x1, .int .i64 B.x2] rfl rfl TX.out.t (two_one _ _) (by decide) (by have := HXL.out; simp only [maxLen]; omega) (by have := HXL.out; omega) HS.out.v.n ?_; intro v' wt18 ho hg hat; obtain ⟨xa', xc', rfl, -, -⟩ := own_slice ho; have TY := Lib.hid (TY.out.putX hg hat); have TZ := Lib.hid (TZ.out.putX hg hat); have HS := Lib.hid (HS.out.putX (xs' := xs ++ [B.x1, B.x2]) (by rw [ints_two, List.length_append]; exact ho) hg hat); clear ho hg hat)
        refine One_mk (KW.mk' HS.out.c) ?_
        refine wpTree_one ?_
        simp only [nthOp]
        go_wp2_with (at_builtin; refine wpList_append_here _ rfl _ _ 147 rfl W1.heap.size 3 i1 (.int .i64 0) 1 8 Tryz.underlying147 hi1 hy0 hy1 hy2 rfl (by decide) (.slice ya ys.length yc) ys.length (ys.map (Value.int .i64)) rfl HS.out.v.oy ⟨gy, 0, none⟩ 2 2 [.int .i64 B.y1, .int .i64 B.y2] rfl rfl TY.out.t (two_one _ _) (by decide) (by have := HYL.out; simp only [maxLen]; omega) (by have := HYL.out; omega) HS.out.v.n ?_; intro v' wt19 ho hg hat; obtain ⟨ya', yc', rfl, -, -⟩ := own_slice ho; have TZ := Lib.hid (TZ.out.putY hg hat); have HS := Lib.hid (HS.out.putY (ys' := ys ++ [B.y1, B.y2]) (by rw [ints_two, List.length_append]; exact ho) hg hat); clear ho hg hat)
        refine One_mk (KW.mk' HS.out.c) ?_
        refine wpTree_done ?_
        simp only [List.drop_succ_cons, List.drop_zero]
        go_wp2_with (at_builtin; refine wpList_append_here _ rfl _ _ 147 rfl W1.heap.size 3 i1 (.int .i64 0) 1 8 Tryz.underlying147 hi1 hy0 hy1 hy2 rfl (by decide) (.slice za zs.length zc) zs.length (zs.map (Value.int .i64)) rfl HS.out.v.oz ⟨gz, 0, none⟩ 2 2 [.int .i64 B.z1, .int .i64 B.z2] rfl rfl TZ.out.t (two_one _ _) (by decide) (by have := HZL.out; simp only [maxLen]; omega) (by have := HZL.out; omega) HS.out.v.n ?_; intro v' wl ho hg hat; obtain ⟨za', zc', rfl, -, -⟩ := own_slice ho; have HS := Lib.hid (HS.out.putZ (zs' := zs ++ [B.z1, B.z2]) (by rw [ints_two, List.length_append]; exact ho) hg hat); clear ho hg hat)
        refine NP_mk ?_
        exact cut_meet (by simp [forget]) ⟨_, _, _, rfl, rfl, rfl, HS.out.v⟩
      ·skip
       simp only [nthOp]
       go_wp2_with fail
       have TX := Lib.hid (TX.out.keep ((Below.refl wt1.heap.size wt1).alloc (Nat.le_refl _) (.cells #[.int .i64 B.z1, .int .i64 B.z2] 3)))
       have TZ := Lib.hid (Tw.new (p := B.z1) (q := B.z2) HS.out.v 3)
       have HS := Lib.hid (HS.out.keep ((Below.refl wt1.heap.size wt1).alloc (Nat.le_refl _) (.cells #[.int .i64 B.z1, .int .i64 B.z2] 3)))
       refine One_mk (KW.mk' HS.out.c) ?_
       generalize (wt1.alloc (.cells #[.int .i64 B.z1, .int .i64 B.z2] 3)) = wt20 at *
       generalize wt1.heap.size = gz at *
       refine wpTree_two ?_ ?_
       ·skip
        simp only [nthOp]
        go_wp2_with (at_builtin; refine wpList_append_here _ rfl _ _ 147 rfl W1.heap.size 3 i1 (.int .i64 0) 1 8 Tryz.underlying147 hi1 hy0 hy1 hy2 rfl (by decide) (.slice xa xs.length xc) xs.length (xs.map (Value.int .i64)) rfl HS.out.v.ox ⟨gx, 0, none⟩ 2 2 [.int .i64 B.x1, .int .i64 B.x2] rfl rfl TX.out.t (two_one _ _) (by decide) (by have := HXL.out; simp only [maxLen]; omega) (by have := HXL.out; omega) HS.out.v.n ?_; intro v' wt21 ho hg hat; obtain ⟨xa', xc', rfl, -, -⟩ := own_slice ho; have TZ := Lib.hid (TZ.out.putX hg hat); have HS := Lib.hid (HS.out.putX (xs' := xs ++ [B.x1, B.x2]) (by rw [ints_two, List.length_append]; exact ho) hg hat); clear ho hg hat)
        refine One_mk (KW.mk' HS.out.c) ?_
        refine wpTree_one ?_
        simp only [nthOp]
        go_wp2_with fail
        have TZ := Lib.hid (TZ.out.keep ((Below.refl wt21.heap.size wt21).alloc (Nat.le_refl _) (.cells #[.int .i64 B.y1, .int .i64 B.y2] 3)))
        have TY := Lib.hid (Tw.new (p := B.y1) (q := B.y2) HS.out.v 3)
        have HS := Lib.hid (HS.out.keep ((Below.refl wt21.heap.size wt21).alloc (Nat.le_refl _) (.cells #[.int .i64 B.y1, .int .i64 B.y2] 3)))
        refine One_mk (KW.mk' HS.out.c) ?_
        generalize (wt21.alloc (.cells #[.int .i64 B.y1, .int .i64 B.y2] 3)) = wt22 at *
        generalize wt21.heap.size = gy at *
        refine wpTree_one ?_
        simp only [nthOp]
        go_wp2_with (at_builtin; refine wpList_append_here _ rfl _ _ 147 rfl W1.heap.size 3 i1 (.int .i64 0) 1 8 Tryz.underlying147 hi1 hy0 hy1 hy2 rfl (by decide) (.slice ya ys.length yc) ys.length (ys.map (Value.int .i64)) rfl HS.out.v.oy ⟨gy, 0, none⟩ 2 2 [.int .i64 B.y1, .int .i64 B.y2] rfl rfl TY.out.t (two_one _ _) (by decide) (by have := HYL.out; simp only [maxLen]; omega) (by have := HYL.out; omega) HS.out.v.n ?_; intro v' wt23 ho hg hat; obtain ⟨ya', yc', rfl, -, -⟩ := own_slice ho; have TZ := Lib.hid (TZ.out.putY hg hat); have HS := Lib.hid (HS.out.putY (ys' := ys ++ [B.y1, B.y2]) (by rw [ints_two, List.length_append]; exact ho) hg hat); clear ho hg hat)
        refine One_mk (KW.mk' HS.out.c) ?_
        refine wpTree_done ?_
        simp only [List.drop_succ_cons, List.drop_zero]
        go_wp2_with (at_builtin; refine wpList_append_here _ rfl _ _ 147 rfl W1.heap.size 3 i1 (.int .i64 0) 1 8 Tryz.underlying147 hi1 hy0 hy1 hy2 rfl (by decide) (.slice za zs.length zc) zs.length (zs.map (Value.int .i64)) rfl HS.out.v.oz ⟨gz, 0, none⟩ 2 2 [.int .i64 B.z1, .int .i64 B.z2] rfl rfl TZ.out.t (two_one _ _) (by decide) (by have := HZL.out; simp only [maxLen]; omega) (by have := HZL.out; omega) HS.out.v.n ?_; intro v' wl ho hg hat; obtain ⟨za', zc', rfl, -, -⟩ := own_slice ho; have HS := Lib.hid (HS.out.putZ (zs' := zs ++ [B.z1, B.z2]) (by rw [ints_two, List.length_append]; exact ho) hg hat); clear ho hg hat)
        refine NP_mk ?_
        exact cut_meet (by simp [forget]) ⟨_, _, _, rfl, rfl, rfl, HS.out.v⟩
       ·skip
        simp only [nthOp]
        go_wp2_with fail
        have TX := Lib.hid (TX.out.keep ((Below.refl wt20.heap.size wt20).alloc (Nat.le_refl _) (.cells #[.int .i64 B.y1, .int .i64 B.y2] 3)))
        have TZ := Lib.hid (TZ.out.keep ((Below.refl wt20.heap.size wt20).alloc (Nat.le_refl _) (.cells #[.int .i64 B.y1, .int .i64 B.y2] 3)))
        have TY := Lib.hid (Tw.new (p := B.y1) (q := B.y2) HS.out.v 3)
        have HS := Lib.hid (HS.out.keep ((Below.refl wt20.heap.size wt20).alloc (Nat.le_refl _) (.cells #[.int .i64 B.y1, .int .i64 B.y2] 3)))
        refine One_mk (KW.mk' HS.out.c) ?_
        generalize (wt20.alloc (.cells #[.int .i64 B.y1, .int .i64 B.y2] 3)) = wt24 at *
        generalize wt20.heap.size = gy at *
        refine wpTree_one ?_
        simp only [nthOp]
        go_wp2_with (at_builtin; refine wpList_append_here _ rfl _ _ 147 rfl W1.heap.size 3 i1 (.int .i64 0) 1 8 Tryz.underlying147 hi1 hy0 hy1 hy2 rfl (by decide) (.slice xa xs.length xc) xs.length (xs.map (Value.int .i64)) rfl HS.out.v.ox ⟨gx, 0, none⟩ 2 2 [.int .i64 B.x1, .int .i64 B.x2] rfl rfl TX.out.t (two_one _ _) (by decide) (by have := HXL.out; simp only [maxLen]; omega) (by have := HXL.out; omega) HS.out.v.n ?_; intro v' wt25 ho hg hat; obtain ⟨xa', xc', rfl, -, -⟩ := own_slice ho; have TY := Lib.hid (TY.out.putX hg hat); have TZ := Lib.hid (TZ.out.putX hg hat); have HS := Lib.hid (HS.out.putX (xs' := xs ++ [B.x1, B.x2]) (by rw [ints_two, List.length_append]; exact ho) hg hat); clear ho hg hat)
        refine One_mk (KW.mk' HS.out.c) ?_
        refine wpTree_one ?_
        simp only [nthOp]
        go_wp2_with (at_builtin; refine wpList_append_here _ rfl _ _ 147 rfl W1.heap.size 3 i1 (.int .i64 0) 1 8 Tryz.underlying147 hi1 hy0 hy1 hy2 rfl (by decide) (.slice ya ys.length yc) ys.length (ys.map (Value.int .i64)) rfl HS.out.v.oy ⟨gy, 0, none⟩ 2 2 [.int .i64 B.y1, .int .i64 B.y2] rfl rfl TY.out.t (two_one _ _) (by decide) (by have := HYL.out; simp only [maxLen]; omega) (by have := HYL.out; omega) HS.out.v.n ?_; intro v' wt26 ho hg hat; obtain ⟨ya', yc', rfl, -, -⟩ := own_slice ho; have TZ := Lib.hid (TZ.out.putY hg hat); have HS := Lib.hid (HS.out.putY (ys' := ys ++ [B.y1, B.y2]) (by rw [ints_two, List.length_append]; exact ho) hg hat); clear ho hg hat)
        refine One_mk (KW.mk' HS.out.c) ?_
        refine wpTree_done ?_
        simp only [List.drop_succ_cons, List.drop_zero]
        go_wp2_with (at_builtin; refine wpList_append_here _ rfl _ _ 147 rfl W1.heap.size 3 i1 (.int .i64 0) 1 8 Tryz.underlying147 hi1 hy0 hy1 hy2 rfl (by decide) (.slice za zs.length zc) zs.length (zs.map (Value.int .i64)) rfl HS.out.v.oz ⟨gz, 0, none⟩ 2 2 [.int .i64 B.z1, .int .i64 B.z2] rfl rfl TZ.out.t (two_one _ _) (by decide) (by have := HZL.out; simp only [maxLen]; omega) (by have := HZL.out; omega) HS.out.v.n ?_; intro v' wl ho hg hat; obtain ⟨za', zc', rfl, -, -⟩ := own_slice ho; have HS := Lib.hid (HS.out.putZ (zs' := zs ++ [B.z1, B.z2]) (by rw [ints_two, List.length_append]; exact ho) hg hat); clear ho hg hat)
        refine NP_mk ?_
        exact cut_meet (by simp [forget]) ⟨_, _, _, rfl, rfl, rfl, HS.out.v⟩
     ·skip
      simp only [nthOp]
      go_wp2_with fail
      have TY := Lib.hid (Tw.new (p := B.y1) (q := B.y2) HS.out.v 3)
      have HS := Lib.hid (HS.out.keep ((Below.refl wz.heap.size wz).alloc (Nat.le_refl _) (.cells #[.int .i64 B.y1, .int .i64 B.y2] 3)))
      refine One_mk (KW.mk' HS.out.c) ?_
      generalize (wz.alloc (.cells #[.int .i64 B.y1, .int .i64 B.y2] 3)) = wt27 at *
      generalize wz.heap.size = gy at *
      refine wpTree_two ?_ ?_
      ·skip
       simp only [nthOp]
       go_wp2_with fail
       have TY := Lib.hid (TY.out.keep ((Below.refl wt27.heap.size wt27).alloc (Nat.le_refl _) (.cells #[.int .i64 B.x1, .int .i64 B.x2] 3)))
       have TX := Lib.hid (Tw.new (p := B.x1) (q := B.x2) HS.out.v 3)
       have HS := Lib.hid (HS.out.keep ((Below.refl wt27.heap.size wt27).alloc (Nat.le_refl _) (.cells #[.int .i64 B.x1, .int .i64 B.x2] 3)))
       refine One_mk (KW.mk' HS.out.c) ?_
       generalize (wt27.alloc (.cells #[.int .i64 B.x1, .int .i64 B.x2] 3)) = wt28 at *
       generalize wt27.heap.size = gx at *
       refine wpTree_two ?_ ?_
       ·skip
        simp only [nthOp]
        go_wp2_with (at_builtin; refine wpList_append_here _ rfl _ _ 147 rfl W1.heap.size 3 i1 (.int .i64 0) 1 8 Tryz.underlying147 hi1 hy0 hy1 hy2 rfl (by decide) (.slice xa xs.length xc) xs.length (xs.map (Value.int .i64)) rfl HS.out.v.ox ⟨gx, 0, none⟩ 2 2 [.int .i64 B.x1, .int .i64 B.x2] rfl rfl TX.out.t (two_one _ _) (by decide) (by have := HXL.out; simp only [maxLen]; omega) (by have := HXL.out; omega) HS.out.v.n ?_; intro v' wt29 ho hg hat; obtain ⟨xa', xc', rfl, -, -⟩ := own_slice ho; have TY := Lib.hid (TY.out.putX hg hat); have HS := Lib.hid (HS.out.putX (xs' := xs ++ [B.x1, B.x2]) (by rw [ints_two, List.length_append]; exact ho) hg hat); clear ho hg hat)
        refine One_mk (KW.mk' HS.out.c) ?_
        refine wpTree_two ?_ ?_
        ·skip
         simp only [nthOp]
         go_wp2_with (at_builtin; refine wpList_append_here _ rfl _ _ 147 rfl W1.heap.size 3 i1 (.int .i64 0) 1 8 Tryz.underlying147 hi1 hy0 hy1 hy2 rfl (by decide) (.slice ya ys.length yc) ys.length (ys.map (Value.int .i64)) rfl HS.out.v.oy ⟨gy, 0, none⟩ 2 2 [.int .i64 B.y1, .int .i64 B.y2] rfl rfl TY.out.t (two_one _ _) (by decide) (by have := HYL.out; simp only [maxLen]; omega) (by have := HYL.out; omega) HS.out.v.n ?_; intro v' wt30 ho hg hat; obtain ⟨ya', yc', rfl, -, -⟩ := own_slice ho; have HS := Lib.hid (HS.out.putY (ys' := ys ++ [B.y1, B.y2]) (by rw [ints_two, List.length_append]; exact ho) hg hat); clear ho hg hat)
         refine One_mk (KW.mk' HS.out.c) ?_
         refine wpTree_one ?_
         simp only [nthOp]
         go_wp2_with fail
         have TZ := Lib.hid (Tw.new (p := B.z1) (q := B.z2) HS.out.v 3)
         have HS := Lib.hid (HS.out.keep ((Below.refl wt30.heap.size wt30).alloc (Nat.le_refl _) (.cells #[.int .i64 B.z1, .int .i64 B.z2] 3)))
         refine One_mk (KW.mk' HS.out.c) ?_
         generalize (wt30.alloc (.cells #[.int .i64 B.z1, .int .i64 B.z2] 3)) = wt31 at *
         generalize wt30.heap.size = gz at *
         refine wpTree_done ?_
         simp only [List.drop_succ_cons, List.drop_zero]
         go_wp2_with (at_builtin; refine wpList_append_here _ rfl _ _ 147 rfl W1.heap.size 3 i1 (.int .i64 0) 1 8 Tryz.underlying147 hi1 hy0 hy1 hy2 rfl (by decide) (.slice za zs.length zc) zs.length (zs.map (Value.int .i64)) rfl HS.out.v.oz ⟨gz, 0, none⟩ 2 2 [.int .i64 B.z1, .int .i64 B.z2] rfl rfl TZ.out.t (two_one _ _) (by decide) (by have := HZL.out; simp only [maxLen]; omega) (by have := HZL.out; omega) HS.out.v.n ?_; intro v' wl ho hg hat; obtain ⟨za', zc', rfl, -, -⟩ := own_slice ho; have HS := Lib.hid (HS.out.putZ (zs' := zs ++ [B.z1, B.z2]) (by rw [ints_two, List.length_append]; exact ho) hg hat); clear ho hg hat)
         refine NP_mk ?_
         exact cut_meet (by simp [forget]) ⟨_, _, _, rfl, rfl, rfl, HS.out.v⟩
        ·skip
         simp only [nthOp]
         go_wp2_with fail
         have TY := Lib.hid (TY.out.keep ((Below.refl wt29.heap.size wt29).alloc (Nat.le_refl _) (.cells #[.int .i64 B.z1, .int .i64 B.z2] 3)))
         have TZ := Lib.hid (Tw.new (p := B.z1) (q := B.z2) HS.out.v 3)
         have HS := Lib.hid (HS.out.keep ((Below.refl wt29.heap.size wt29).alloc (Nat.le_refl _) (.cells #[.int .i64 B.z1, .int .i64 B.z2] 3)))
         refine One_mk (KW.mk' HS.out.c) ?_
         generalize (wt29.alloc (.cells #[.int .i64 B.z1, .int .i64 B.z2] 3)) = wt32 at *
         generalize wt29.heap.size = gz at *
         refine wpTree_one ?_
         simp only [nthOp]
         go_wp2_with (at_builtin; refine wpList_append_here _ rfl _ _ 147 rfl W1.heap.size 3 i1 (.int .i64 0) 1 8 Tryz.underlying147 hi1 hy0 hy1 hy2 rfl (by decide) (.slice ya ys.length yc) ys.length (ys.map (Value.int .i64)) rfl HS.out.v.oy ⟨gy, 0, none⟩ 2 2 [.int .i64 B.y1, .int .i64 B.y2] rfl rfl TY.out.t (two_one _ _) (by decide) (by have := HYL.out; simp only [maxLen]; omega) (by have := HYL.out; omega) HS.out.v.n ?_; intro v' wt33 ho hg hat; obtain ⟨ya', yc', rfl, -, -⟩ := own_slice ho; have TZ := Lib.hid (TZ.out.putY hg hat); have HS := Lib.hid (HS.out.putY (ys' := ys ++ [B.y1, B.y2]) (by rw [ints_two, List.length_append]; exact ho) hg hat); clear ho hg hat)
         refine One_mk (KW.mk' HS.out.c) ?_
         refine wpTree_done ?_
         simp only [List.drop_succ_cons, List.drop_zero]
         go_wp2_with (at_builtin; refine wpList_append_here _ rfl _ _ 147 rfl W1.heap.size 3 i1 (.int .i64 0) 1 8 Tryz.underlying147 hi1 hy0 hy1 hy2 rfl (by decide) (.slice za zs.length zc) zs.length (zs.map (Value.int .i64)) rfl HS.out.v.oz ⟨gz, 0, none⟩ 2 2 [.int .i64 B.z1, .int .i64 B.z2] rfl rfl TZ.out.t (two_one _ _) (by decide) (by have := HZL.out; simp only [maxLen]; omega) (by have := HZL.out; omega) HS.out.v.n ?_; intro v' wl ho hg hat; obtain ⟨za', zc', rfl, -, -⟩ := own_slice ho; have HS := Lib.hid (HS.out.putZ (zs' := zs ++ [B.z1, B.z2]) (by rw [ints_two, List.length_append]; exact ho) hg hat); clear ho hg hat)
         refine NP_mk ?_
         exact cut_meet (by simp [forget]) ⟨_, _, _, rfl, rfl, rfl, HS.out.v⟩
       ·skip
        simp only [nthOp]
        go_wp2_with fail
        have TX := Lib.hid (TX.out.keep ((Below.refl wt28.heap.size wt28).alloc (Nat.le_refl _) (.cells #[.int .i64 B.z1, .int .i64 B.z2] 3)))
        have TY := Lib.hid (TY.out.keep ((Below.refl wt28.heap.size wt28).alloc (Nat.le_refl _) (.cells #[.int .i64 B.z1, .int .i64 B.z2] 3)))
        have TZ := Lib.hid (Tw.new (p := B.z1) (q := B.z2) HS.out.v 3)
        have HS := Lib.hid (HS.out.keep ((Below.refl wt28.heap.size wt28).alloc (Nat.le_refl _) (.cells #[.int .i64 B.z1, .int .i64 B.z2] 3)))
        refine One_mk (KW.mk' HS.out.c) ?_
        generalize (wt28.alloc (.cells #[.int .i64 B.z1, .int .i64 B.z2] 3)) = wt34 at *
        generalize wt28.heap.size = gz at *
        refine wpTree_one ?_
        simp only [nthOp]
        go_wp2_with (at_builtin; refine wpList_append_here _ rfl _ _ 147 rfl W1.heap.size 3 i1 (.int .i64 0) 1 8 Tryz.underlying147 hi1 hy0 hy1 hy2 rfl (by decide) (.slice xa xs.length xc) xs.length (xs.map (Value.int .i64)) rfl HS.out.v.ox ⟨gx, 0, none⟩ 2 2 [.int .i64 B.x1, .int .i64 B.x2] rfl rfl TX.out.t (two_one _ _) (by decide) (by have := HXL.out; simp only [maxLen]; omega) (by have := HXL.out; omega) HS.out.v.n ?_; intro v' wt35 ho hg hat; obtain ⟨xa', xc', rfl, -, -⟩ := own_slice ho; have TY := Lib.hid (TY.out.putX hg hat); have TZ := Lib.hid (TZ.out.putX hg hat); have HS := Lib.hid (HS.out.putX (xs' := xs ++ [B.x1, B.x2]) (by rw [ints_two, List.length_append]; exact ho) hg hat); clear ho hg hat)
        refine One_mk (KW.mk' HS.out.c) ?_
        refine wpTree_one ?_
        simp only [nthOp]
        go_wp2_with (at_builtin; refine wpList_append_here _ rfl _ _ 147 rfl W1.heap.size 3 i1 (.int .i64 0) 1 8 Tryz.underlying147 hi1 hy0 hy1 hy2 rfl (by decide) (.slice ya ys.length yc) ys.length (ys.map (Value.int .i64)) rfl HS.out.v.oy ⟨gy, 0, none⟩ 2 2 [.int .i64 B.y1, .int .i64 B.y2] rfl rfl TY.out.t (two_one _ _) (by decide) (by have := HYL.out; simp only [maxLen]; omega) (by have := HYL.out; omega) HS.out.v.n ?_; intro v' wt36 ho hg hat; obtain ⟨ya', yc', rfl, -, -⟩ := own_slice ho; have TZ := Lib.hid (TZ.out.putY hg hat); have HS := Lib.hid (HS.out.putY (ys' := ys ++ [B.y1, B.y2]) (by rw [ints_two, List.length_append]; exact ho) hg hat); clear ho hg hat)
        refine One_mk (KW.mk' HS.out.c) ?_
        refine wpTree_done ?_
        simp only [List.drop_succ_cons, List.drop_zero]
        go_wp2_with (at_builtin; refine wpList_append_here _ rfl _ _ 147 rfl W1.heap.size 3 i1 (.int .i64 0) 1 8 Tryz.underlying147 hi1 hy0 hy1 hy2 rfl (by decide) (.slice za zs.length zc) zs.length (zs.map (Value.int .i64)) rfl HS.out.v.oz ⟨gz, 0, none⟩ 2 2 [.int .i64 B.z1, .int .i64 B.z2] rfl rfl TZ.out.t (two_one _ _) (by decide) (by have := HZL.out; simp only [maxLen]; omega) (by have := HZL.out; omega) HS.out.v.n ?_; intro v' wl ho hg hat; obtain ⟨za', zc', rfl, -, -⟩ := own_slice ho; have HS := Lib.hid (HS.out.putZ (zs' := zs ++ [B.z1, B.z2]) (by rw [ints_two, List.length_append]; exact ho) hg hat); clear ho hg hat)
        refine NP_mk ?_
        exact cut_meet (by simp [forget]) ⟨_, _, _, rfl, rfl, rfl, HS.out.v⟩
      ·skip
       simp only [nthOp]
       go_wp2_with fail
       have TY := Lib.hid (TY.out.keep ((Below.refl wt27.heap.size wt27).alloc (Nat.le_refl _) (.cells #[.int .i64 B.z1, .int .i64 B.z2] 3)))
       have TZ := Lib.hid (Tw.new (p := B.z1) (q := B.z2) HS.out.v 3)
       have HS := Lib.hid (HS.out.keep ((Below.refl wt27.heap.size wt27).alloc (Nat.le_refl _) (.cells #[.int .i64 B.z1, .int .i64 B.z2] 3)))
       refine One_mk (KW.mk' HS.out.c) ?_
       generalize (wt27.alloc (.cells #[.int .i64 B.z1, .int .i64 B.z2] 3)) = wt37 at *
       generalize wt27.heap.size = gz at *
       refine wpTree_one ?_
       simp only [nthOp]
       go_wp2_with fail
       have TY := Lib.hid (TY.out.keep ((Below.refl wt37.heap.size wt37).alloc (Nat.le_refl _) (.cells #[.int .i64 B.x1, .int .i64 B.x2] 3)))
       have TZ := Lib.hid (TZ.out.keep ((Below.refl wt37.heap.size wt37).alloc (Nat.le_refl _) (.cells #[.int .i64 B.x1, .int .i64 B.x2] 3)))
       have TX := Lib.hid (Tw.new (p := B.x1) (q := B.x2) HS.out.v 3)
       have HS := Lib.hid (HS.out.keep ((Below.refl wt37.heap.size wt37).alloc (Nat.le_refl _) (.cells #[.int .i64 B.x1, .int .i64 B.x2] 3)))
       refine One_mk (KW.mk' HS.out.c) ?_
       generalize (wt37.alloc (.cells #[.int .i64 B.x1, .int .i64 B.x2] 3)) = wt38 at *
       generalize wt37.heap.size = gx at *
       refine wpTree_one ?_
       simp only [nthOp]
       go_wp2_with (at_builtin; refine wpList_append_here _ rfl _ _ 147 rfl W1.heap.size 3 i1 (.int .i64 0) 1 8 Tryz.underlying147 hi1 hy0 hy1 hy2 rfl (by decide) (.slice xa xs.length xc) xs.length (xs.map (Value.int .i64)) rfl HS.out.v.ox ⟨gx, 0, none⟩ 2 2 [.int .i64 B.x1, .int .i64 B.x2] rfl rfl TX.out.t (two_one _ _) (by decide) (by have := HXL.out; simp only [maxLen]; omega) (by have := HXL.out; omega) HS.out.v.n ?_; intro v' wt39 ho hg hat; obtain ⟨xa', xc', rfl, -, -⟩ := own_slice ho; have TY := Lib.hid (TY.out.putX hg hat); have TZ := Lib.hid (TZ.out.putX hg hat); have HS := Lib.hid (HS.out.putX (xs' := xs ++ [B.x1, B.x2]) (by rw [ints_two, List.length_append]; exact ho) hg hat); clear ho hg hat)
       refine One_mk (KW.mk' HS.out.c) ?_
       refine wpTree_one ?_
       simp only [nthOp]
       go_wp2_with (at_builtin; refine wpList_append_here _ rfl _ _ 147 rfl W1.heap.size 3 i1 (.int .i64 0) 1 8 Tryz.underlying147 hi1 hy0 hy1 hy2 rfl (by decide) (.slice ya ys.length yc) ys.length (ys.map (Value.int .i64)) rfl HS.out.v.oy ⟨gy, 0, none⟩ 2 2 [.int .i64 B.y1, .int .i64 B.y2] rfl rfl TY.out.t (two_one _ _) (by decide) (by have := HYL.out; simp only [maxLen]; omega) (by have := HYL.out; omega) HS.out.v.n ?_; intro v' wt40 ho hg hat; obtain ⟨ya', yc', rfl, -, -⟩ := own_slice ho; have TZ := Lib.hid (TZ.out.putY hg hat); have HS := Lib.hid (HS.out.putY (ys' := ys ++ [B.y1, B.y2]) (by rw [ints_two, List.length_append]; exact ho) hg hat); clear ho hg hat)
       refine One_mk (KW.mk' HS.out.c) ?_
       refine wpTree_done ?_
       simp only [List.drop_succ_cons, List.drop_zero]
       go_wp2_with (at_builtin; refine wpList_append_here _ rfl _ _ 147 rfl W1.heap.size 3 i1 (.int .i64 0) 1 8 Tryz.underlying147 hi1 hy0 hy1 hy2 rfl (by decide) (.slice za zs.length zc) zs.length (zs.map (Value.int .i64)) rfl HS.out.v.oz ⟨gz, 0, none⟩ 2 2 [.int .i64 B.z1, .int .i64 B.z2] rfl rfl TZ.out.t (two_one _ _) (by decide) (by have := HZL.out; simp only [maxLen]; omega) (by have := HZL.out; omega) HS.out.v.n ?_; intro v' wl ho hg hat; obtain ⟨za', zc', rfl, -, -⟩ := own_slice ho; have HS := Lib.hid (HS.out.putZ (zs' := zs ++ [B.z1, B.z2]) (by rw [ints_two, List.length_append]; exact ho) hg hat); clear ho hg hat)
       refine NP_mk ?_
       exact cut_meet (by simp [forget]) ⟨_, _, _, rfl, rfl, rfl, HS.out.v⟩
     ·skip
      simp only [nthOp]
      go_wp2_with fail
      have TZ := Lib.hid (Tw.new (p := B.z1) (q := B.z2) HS.out.v 3)
      have HS := Lib.hid (HS.out.keep ((Below.refl wz.heap.size wz).alloc (Nat.le_refl _) (.cells #[.int .i64 B.z1, .int .i64 B.z2] 3)))
      refine One_mk (KW.mk' HS.out.c) ?_
      generalize (wz.alloc (.cells #[.int .i64 B.z1, .int .i64 B.z2] 3)) = wt41 at *
      generalize wz.heap.size = gz at *
      refine wpTree_two ?_ ?_
      ·skip
       simp only [nthOp]
       go_wp2_with fail
       have TZ := Lib.hid (TZ.out.keep ((Below.refl wt41.heap.size wt41).alloc (Nat.le_refl _) (.cells #[.int .i64 B.x1, .int .i64 B.x2] 3)))
       have TX := Lib.hid (Tw.new (p := B.x1) (q := B.x2) HS.out.v 3)
       have HS := Lib.hid (HS.out.keep ((Below.refl wt41.heap.size wt41).alloc (Nat.le_refl _) (.cells #[.int .i64 B.x1, .int .i64 B.x2] 3)))
       refine One_mk (KW.mk' HS.out.c) ?_
       generalize (wt41.alloc (.cells #[.int .i64 B.x1, .int .i64 B.x2] 3)) = wt42 at *
       generalize wt41.heap.size = gx at *
       refine wpTree_two ?_ ?_
       ·skip
        simp only [nthOp]
        go_wp2_with (at_builtin; refine wpList_append_here _ rfl _ _ 147 rfl W1.heap.size 3 i1 (.int .i64 0) 1 8 Tryz.underlying147 hi1 hy0 hy1 hy2 rfl (by decide) (.slice xa xs.length xc) xs.length (xs.map (Value.int .i64)) rfl HS.out.v.ox ⟨gx, 0, none⟩ 2 2 [.int .i64 B.x1, .int .i64 B.x2] rfl rfl TX.out.t (two_one _ _) (by decide) (by have := HXL.out; simp only [maxLen]; omega) (by have := HXL.out; omega) HS.out.v.n ?_; intro v' wt43 ho hg hat; obtain ⟨xa', xc', rfl, -, -⟩ := own_slice ho; have TZ := Lib.hid (TZ.out.putX hg hat); have HS := Lib.hid (HS.out.putX (xs' := xs ++ [B.x1, B.x2]) (by rw [ints_two, List.length_append]; exact ho) hg hat); clear ho hg hat)
        refine One_mk (KW.mk' HS.out.c) ?_
        refine wpTree_one ?_
        simp only [nthOp]
        go_wp2_with fail
        have TZ := Lib.hid (TZ.out.keep ((Below.refl wt43.heap.size wt43).alloc (Nat.le_refl _) (.cells #[.int .i64 B.y1, .int .i64 B.y2] 3)))
        have TY := Lib.hid (Tw.new (p := B.y1) (q := B.y2) HS.out.v 3)
        have HS := Lib.hid (HS.out.keep ((Below.refl wt43.heap.size wt43).alloc (Nat.le_refl _) (.cells #[.int .i64 B.y1, .int .i64 B.y2] 3)))
        refine One_mk (KW.mk' HS.out.c) ?_
        generalize (wt43.alloc (.cells #[.int .i64 B.y1, .int .i64 B.y2] 3)) = wt44 at *
        generalize wt43.heap.size = gy at *
        refine wpTree_one ?_
        simp only [nthOp]
        go_wp2_with (at_builtin; refine wpList_append_here _ rfl _ _ 147 rfl W1.heap.size 3 i1 (.int .i64 0) 1 8 Tryz.underlying147 hi1 hy0 hy1 hy2 rfl (by decide) (.slice ya ys.length yc) ys.length (ys.map (Value.int .i64)) rfl HS.out.v.oy ⟨gy, 0, none⟩ 2 2 [.int .i64 B.y1, .int .i64 B.y2] rfl rfl TY.out.t (two_one _ _) (by decide) (by have := HYL.out; simp only [maxLen]; omega) (by have := HYL.out; omega) HS.out.v.n ?_; intro v' wt45 ho hg hat; obtain ⟨ya', yc', rfl, -, -⟩ := own_slice ho; have TZ := Lib.hid (TZ.out.putY hg hat); have HS := Lib.hid (HS.out.putY (ys' := ys ++ [B.y1, B.y2]) (by rw [ints_two, List.length_append]; exact ho) hg hat); clear ho hg hat)
        refine One_mk (KW.mk' HS.out.c) ?_
        refine wpTree_done ?_
        simp only [List.drop_succ_cons, List.drop_zero]
        go_wp2_with (at_builtin; refine wpList_append_here _ rfl _ _ 147 rfl W1.heap.size 3 i1 (.int .i64 0) 1 8 Tryz.underlying147 hi1 hy0 hy1 hy2 rfl (by decide) (.slice za zs.length zc) zs.length (zs.map (Value.int .i64)) rfl HS.out.v.oz ⟨gz, 0, none⟩ 2 2 [.int .i64 B.z1, .int .i64 B.z2] rfl rfl TZ.out.t (two_one _ _) (by decide) (by have := HZL.out; simp only [maxLen]; omega) (by have := HZL.out; omega) HS.out.v.n ?_; intro v' wl ho hg hat; obtain ⟨za', zc', rfl, -, -⟩ := own_slice ho; have HS := Lib.hid (HS.out.putZ (zs' := zs ++ [B.z1, B.z2]) (by rw [ints_two, List.length_append]; exact ho) hg hat); clear ho hg hat)
        refine NP_mk ?_
        exact cut_meet (by simp [forget]) ⟨_, _, _, rfl, rfl, rfl, HS.out.v⟩
       ·skip
        simp only [nthOp]
        go_wp2_with fail
        have TX := Lib.hid (TX.out.keep ((Below.refl wt42.heap.size wt42).alloc (Nat.le_refl _) (.cells #[.int .i64 B.y1, .int .i64 B.y2] 3)))
        have TZ := Lib.hid (TZ.out.keep ((Below.refl wt42.heap.size wt42).alloc (Nat.le_refl _) (.cells #[.int .i64 B.y1, .int .i64 B.y2] 3)))
        have TY := Lib.hid (Tw.new (p := B.y1) (q := B.y2) HS.out.v 3)
        have HS := Lib.hid (HS.out.keep ((Below.refl wt42.heap.size wt42).alloc (Nat.le_refl _) (.cells #[.int .i64 B.y1, .int .i64 B.y2] 3)))
        refine One_mk (KW.mk' HS.out.c) ?_
        generalize (wt42.alloc (.cells #[.int .i64 B.y1, .int .i64 B.y2] 3)) = wt46 at *
        generalize wt42.heap.size = gy at *
        refine wpTree_one ?_
        simp only [nthOp]
        go_wp2_with (at_builtin; refine wpList_append_here _ rfl _ _ 147 rfl W1.heap.size 3 i1 (.int .i64 0) 1 8 Tryz.underlying147 hi1 hy0 hy1 hy2 rfl (by decide) (.slice xa xs.length xc) xs.length (xs.map (Value.int .i64)) rfl HS.out.v.ox ⟨gx, 0, none⟩ 2 2 [.int .i64 B.x1, .int .i64 B.x2] rfl rfl TX.out.t (two_one _ _) (by decide) (by have := HXL.out; simp only [maxLen]; omega) (by have := HXL.out; omega) HS.out.v.n ?_; intro v' wt47 ho hg hat; obtain ⟨xa', xc', rfl, -, -⟩ := own_slice ho; have TY := Lib.hid (TY.out.putX hg hat); have TZ := Lib.hid (TZ.out.putX hg hat); have HS := Lib.hid (HS.out.putX (xs' := xs ++ [B.x1, B.x2]) (by rw [ints_two, List.length_append]; exact ho) hg hat); clear ho hg hat)
        refine One_mk (KW.mk' HS.out.c) ?_
        refine wpTree_one ?_
        simp only [nthOp]
        go_wp2_with (at_builtin; refine wpList_append_here _ rfl _ _ 147 rfl W1.heap.size 3 i1 (.int .i64 0) 1 8 Tryz.underlying147 hi1 hy0 hy1 hy2 rfl (by decide) (.slice ya ys.length yc) ys.length (ys.map (Value.int .i64)) rfl HS.out.v.oy ⟨gy, 0, none⟩ 2 2 [.int .i64 B.y1, .int .i64 B.y2] rfl rfl TY.out.t (two_one _ _) (by decide) (by have := HYL.out; simp only [maxLen]; omega) (by have := HYL.out; omega) HS.out.v.n ?_; intro v' wt48 ho hg hat; obtain ⟨ya', yc', rfl, -, -⟩ := own_slice ho; have TZ := Lib.hid (TZ.out.putY hg hat); have HS := Lib.hid (HS.out.putY (ys' := ys ++ [B.y1, B.y2]) (by rw [ints_two, List.length_append]; exact ho) hg hat); clear ho hg hat)
        refine One_mk (KW.mk' HS.out.c) ?_
        refine wpTree_done ?_
        simp only [List.drop_succ_cons, List.drop_zero]
        go_wp2_with (at_builtin; refine wpList_append_here _ rfl _ _ 147 rfl W1.heap.size 3 i1 (.int .i64 0) 1 8 Tryz.underlying147 hi1 hy0 hy1 hy2 rfl (by decide) (.slice za zs.length zc) zs.length (zs.map (Value.int .i64)) rfl HS.out.v.oz ⟨gz, 0, none⟩ 2 2 [.int .i64 B.z1, .int .i64 B.z2] rfl rfl TZ.out.t (two_one _ _) (by decide) (by have := HZL.out; simp only [maxLen]; omega) (by have := HZL.out; omega) HS.out.v.n ?_; intro v' wl ho hg hat; obtain ⟨za', zc', rfl, -, -⟩ := own_slice ho; have HS := Lib.hid (HS.out.putZ (zs' := zs ++ [B.z1, B.z2]) (by rw [ints_two, List.length_append]; exact ho) hg hat); clear ho hg hat)
        refine NP_mk ?_
        exact cut_meet (by simp [forget]) ⟨_, _, _, rfl, rfl, rfl, HS.out.v⟩
      ·skip
       simp only [nthOp]
       go_wp2_with fail
       have TZ := Lib.hid (TZ.out.keep ((Below.refl wt41.heap.size wt41).alloc (Nat.le_refl _) (.cells #[.int .i64 B.y1, .int .i64 B.y2] 3)))
       have TY := Lib.hid (Tw.new (p := B.y1) (q := B.y2) HS.out.v 3)
       have HS := Lib.hid (HS.out.keep ((Below.refl wt41.heap.size wt41).alloc (Nat.le_refl _) (.cells #[.int .i64 B.y1, .int .i64 B.y2] 3)))
       refine One_mk (KW.mk' HS.out.c) ?_
       generalize (wt41.alloc (.cells #[.int .i64 B.y1, .int .i64 B.y2] 3)) = wt49 at *
       generalize wt41.heap.size = gy at *
       refine wpTree_one ?_
       simp only [nthOp]
       go_wp2_with fail
       have TY := Lib.hid (TY.out.keep ((Below.refl wt49.heap.size wt49).alloc (Nat.le_refl _) (.cells #[.int .i64 B.x1, .int .i64 B.x2] 3)))
       have TZ := Lib.hid (TZ.out.keep ((Below.refl wt49.heap.size wt49).alloc (Nat.le_refl _) (.cells #[.int .i64 B.x1, .int .i64 B.x2] 3)))
       have TX := Lib.hid (Tw.new (p := B.x1) (q := B.x2) HS.out.v 3)
       have HS := Lib.hid (HS.out.keep ((Below.refl wt49.heap.size wt49).alloc (Nat.le_refl _) (.cells #[.int .i64 B.x1, .int .i64 B.x2] 3)))
       refine One_mk (KW.mk' HS.out.c) ?_
       generalize (wt49.alloc (.cells #[.int .i64 B.x1, .int .i64 B.x2] 3)) = wt50 at *
       generalize wt49.heap.size = gx at *
       refine wpTree_one ?_
       simp only [nthOp]
       go_wp2_with (at_builtin; refine wpList_append_here _ rfl _ _ 147 rfl W1.heap.size 3 i1 (.int .i64 0) 1 8 Tryz.underlying147 hi1 hy0 hy1 hy2 rfl (by decide) (.slice xa xs.length xc) xs.length (xs.map (Value.int .i64)) rfl HS.out.v.ox ⟨gx, 0, none⟩ 2 2 [.int .i64 B.x1, .int .i64 B.x2] rfl rfl TX.out.t (two_one _ _) (by decide) (by have := HXL.out; simp only [maxLen]; omega) (by have := HXL.out; omega) HS.out.v.n ?_; intro v' wt51 ho hg hat; obtain ⟨xa', xc', rfl, -, -⟩ := own_slice ho; have TY := Lib.hid (TY.out.putX hg hat); have TZ := Lib.hid (TZ.out.putX hg hat); have HS := Lib.hid (HS.out.putX (xs' := xs ++ [B.x1, B.x2]) (by rw [ints_two, List.length_append]; exact ho) hg hat); clear ho hg hat)
       refine One_mk (KW.mk' HS.out.c) ?_
       refine wpTree_one ?_
       simp only [nthOp]
       go_wp2_with (at_builtin; refine wpList_append_here _ rfl _ _ 147 rfl W1.heap.size 3 i1 (.int .i64 0) 1 8 Tryz.underlying147 hi1 hy0 hy1 hy2 rfl (by decide) (.slice ya ys.length yc) ys.length (ys.map (Value.int .i64)) rfl HS.out.v.oy ⟨gy, 0, none⟩ 2 2 [.int .i64 B.y1, .int .i64 B.y2] rfl rfl TY.out.t (two_one _ _) (by decide) (by have := HYL.out; simp only [maxLen]; omega) (by have := HYL.out; omega) HS.out.v.n ?_; intro v' wt52 ho hg hat; obtain ⟨ya', yc', rfl, -, -⟩ := own_slice ho; have TZ := Lib.hid (TZ.out.putY hg hat); have HS := Lib.hid (HS.out.putY (ys' := ys ++ [B.y1, B.y2]) (by rw [ints_two, List.length_append]; exact ho) hg hat); clear ho hg hat)
       refine One_mk (KW.mk' HS.out.c) ?_
       refine wpTree_done ?_
       simp only [List.drop_succ_cons, List.drop_zero]
       go_wp2_with (at_builtin; refine wpList_append_here _ rfl _ _ 147 rfl W1.heap.size 3 i1 (.int .i64 0) 1 8 Tryz.underlying147 hi1 hy0 hy1 hy2 rfl (by decide) (.slice za zs.length zc) zs.length (zs.map (Value.int .i64)) rfl HS.out.v.oz ⟨gz, 0, none⟩ 2 2 [.int .i64 B.z1, .int .i64 B.z2] rfl rfl TZ.out.t (two_one _ _) (by decide) (by have := HZL.out; simp only [maxLen]; omega) (by have := HZL.out; omega) HS.out.v.n ?_; intro v' wl ho hg hat; obtain ⟨za', zc', rfl, -, -⟩ := own_slice ho; have HS := Lib.hid (HS.out.putZ (zs' := zs ++ [B.z1, B.z2]) (by rw [ints_two, List.length_append]; exact ho) hg hat); clear ho hg hat)
       refine NP_mk ?_
       exact cut_meet (by simp [forget]) ⟨_, _, _, rfl, rfl, rfl, HS.out.v⟩
    rintro u W ⟨vx, vy, vz, hu5, hu6, hu7, hst⟩
    have HSN := Lib.hid hst
    simp only [forget, List.foldl_cons, List.foldl_nil, hu5, hu6, hu7, List.setIfInBounds_toArray, List.set_cons_succ, List.set_cons_zero]
    clear hu5 hu6 hu7 hst
    go_wp2_with fail
    go_roundw
    case rel => exact ⟨k + 1, bs ++ [B], by omega, by go_num, by rw [HMX.out, HMY.out, HMZ.out]; exact HSN.out, HBS2, HAL2⟩
    case measure => first | (simp [intOf]; done) | (simp [intOf]; omega)
   | false =>
    rw [hE] at HIB
    have HME := Lib.hid (show M = 17 by
     rw [HM.out, if_neg]
     rw [List.all_eq_true]
     intro h
     have := h _ (List.mem_map.2 ⟨_, HMEM.out, rfl⟩)
     simp only at this
     rw [hE] at this
     cases this)
    have HTE := Lib.hid (show T = 0 by rw [HTV.out, if_neg (by rw [HME.out]; decide)])
    go_wp2_with (go_at_call 102; refine (HIB.out _ (Below.refl _ _)).mono ?_; rintro e w2 ⟨rfl, hb⟩; have HB2 := Lib.hid hb; clear hb)
    refine bodyPost_ret (v := .tuple #[.int .i64 0, .int .i64 17]) (by simp [results, Tryz.results44, go_sem]) rfl ⟨by rw [HME.out, HTE.out], HBWR.out.trans (HB2.out.mono HBWR.out.size)⟩
  ·obtain rfl : k = cells.length := by omega
   have hki : ¬ ((cells.length : Nat) : Int) < ((cells.length : Nat) : Int) := by omega
   have HBSL := Lib.hid (show bs = (cells.map (·.planes)).map boxV by rw [HBS.out, List.take_length])
   have HALL := Lib.hid (show (cells.map (·.planes)).all (fun l => (boxO l).isSome) = true by have := HAL.out; rwa [List.take_length] at this)
   have HME := Lib.hid (show M = 0 by rw [HM.out, if_pos HALL.out])
   have HTE := Lib.hid (show T = volB bs by rw [HTV.out, if_pos HME.out, HBSL.out])
   have HOK := Lib.hid (show ∀ b ∈ bs, b.ok from fun b hb => by
    rw [HBSL.out] at hb
    obtain ⟨l, hl, rfl⟩ := List.mem_map.1 hb
    obtain ⟨x, hx, rfl⟩ := List.mem_map.1 hl
    obtain ⟨B, hB⟩ := Option.isSome_iff_exists.1 (List.all_eq_true.1 HALL.out x.planes hl)
    have : boxV x.planes = B := by unfold boxV; rw [hB]; rfl
    rw [this]
    exact (box_of (HRE.out.2 x hx) hB).2.ok)
   have HL1 := Lib.hid (fun W (h : Below wr.heap.size wr W) => lines_any (marksX bs) xa xc W ((ownIns (by rw [flat_in]; exact HST.out.ox)).keep h) (by have := HBL.out; rw [marksX_len]; omega))
   have HL2 := Lib.hid (fun W (h : Below wr.heap.size wr W) => lines_any (marksY bs) ya yc W ((ownIns (by rw [flat_in]; exact HST.out.oy)).keep h) (by have := HBL.out; rw [marksY_len]; omega))
   have HL3 := Lib.hid (fun W (h : Below wr.heap.size wr W) => lines_any (marksZ bs) za zc W ((ownIns (by rw [flat_in]; exact HST.out.oz)).keep h) (by have := HBL.out; rw [marksZ_len]; omega))
   have HBX := Lib.hid (ownBxV HST.out.ob)
   have HUX := Lib.hid (show (uniq (marksX bs)).length ≤ 200 by have := uniq_length (marksX bs); have := HBL.out; rw [marksX_len] at *; omega)
   have HUY := Lib.hid (show (uniq (marksY bs)).length ≤ 200 by have := uniq_length (marksY bs); have := HBL.out; rw [marksY_len] at *; omega)
   have HUZ := Lib.hid (show (uniq (marksZ bs)).length ≤ 200 by have := uniq_length (marksZ bs); have := HBL.out; rw [marksZ_len] at *; omega)
   have HG := Lib.hid (show Grid bs (uniq (marksX bs)) (uniq (marksY bs)) (uniq (marksZ bs)) from ⟨uniq_asc _, uniq_asc _, uniq_asc _, fun z => uniq_mem, fun z => uniq_mem, fun z => uniq_mem⟩)
   clear hst HBSL HALL HRE HM HTV HBS HAL
   go_upto_region 12 with (first
    | (have h := HL1.out; clear HL1; go_at_call 103; refine (h _ (Below.refl _ _)).mono ?_; clear h; rintro e w5 ⟨pa, pc, rfl, ho, hb⟩; have HXV := Lib.hid (ownIns ho); have HB5 := Lib.hid hb; clear ho hb)
    | (have h := HL2.out; clear HL2; go_at_call 103; refine (h _ HB5.out).mono ?_; clear h; rintro e w6 ⟨qa, qc, rfl, ho, hb⟩; have HXV := Lib.hid (HXV.out.keep hb); have HYV := Lib.hid (ownIns ho); have HB6 := Lib.hid (HB5.out.trans (hb.mono HB5.out.size)); clear ho hb)
    | (have h := HL3.out; clear HL3; go_at_call 103; refine (h _ HB6.out).mono ?_; clear h; rintro e w7 ⟨ra, rc, rfl, ho, hb⟩; have HXV := Lib.hid (HXV.out.keep hb); have HYV := Lib.hid (HYV.out.keep hb); have HZV := Lib.hid (ownIns ho); have HB7 := Lib.hid (HB6.out.trans (hb.mono HB6.out.size)); clear ho hb))
   have HBX7 := Lib.hid (HBX.out.keep HB7.out)
   have HBWA := Lib.hid (HBWR.out.trans (HB7.out.mono HBWR.out.size))
   generalize uniq (marksX bs) = X at *
   generalize uniq (marksY bs) = Y at *
   generalize uniq (marksZ bs) = Z at *
   have HVOL := Lib.hid (show gridX bs X Y Z (X.length - 1) = volB bs from HG.out.vol HOK.out)
   have HXB := Lib.hid (show ∀ z ∈ X, -300000 ≤ z ∧ z ≤ 300000 from fun z hz => (marks_bd HOK.out).1 z ((HG.out.mx z).1 hz))
   have HYB := Lib.hid (show ∀ z ∈ Y, -300000 ≤ z ∧ z ≤ 300000 from fun z hz => (marks_bd HOK.out).2.1 z ((HG.out.my z).1 hz))
   have HZB := Lib.hid (show ∀ z ∈ Z, -300000 ≤ z ∧ z ≤ 300000 from fun z hz => (marks_bd HOK.out).2.2 z ((HG.out.mz z).1 hz))
   have HYP := Lib.hid (show X ≠ [] → 1 ≤ Y.length from fun hne => by
    obtain ⟨z, hz⟩ := List.exists_mem_of_ne_nil _ hne
    obtain ⟨b, hb, -⟩ := List.mem_flatMap.1 ((HG.out.mx z).1 hz)
    exact List.length_pos_iff.2 (List.ne_nil_of_mem (HG.out.y hb).1))
   clear HST HBX a1 a0 HV
   go_wp2_with fail
   go_loopw [10, 11] (fun sv iv wq => ∃ (i : Nat), iv = .int .i64 (i : Int) ∧ sv = .int .i64 (gridX bs X Y Z i) ∧ Hid (i = 0 ∨ i + 1 ≤ X.length) ∧ Below w7.heap.size w7 wq) (fun _ iv _ => X.length - (intOf iv).toNat)
   case atStart => exact ⟨0, rfl, rfl, Lib.hid (.inl rfl), Below.refl _ _⟩
   case round =>
    obtain ⟨i, rfl, rfl, HIL, hb⟩ := hrel
    obtain ⟨w8, hw8⟩ : ∃ wo : World, wo = wr := ⟨_, rfl⟩
    subst hw8
    have HBI := Lib.hid hb
    have hxe := HUX.out
    have v1 : IntKind.i64.wrap ((i : Int) + 1) = ((i + 1 : Nat) : Int) := by
     have := HIL.out
     rw [show (i : Int) + 1 = ((i + 1 : Nat) : Int) by omega]; exact IntWalk.i64_in _ (by omega)
    by_cases hlt : i + 1 < X.length
    ·have hki : ((i + 1 : Nat) : Int) < (X.length : Int) := by omega
     clear hb
     have HSI := Lib.hid (gridX_le HG.out HOK.out (i := i) (by omega) (HYP.out (List.ne_nil_of_length_pos (by omega))))
     have HSS := Lib.hid (show gridX bs X Y Z (i + 1) = gridX bs X Y Z i + gridY bs X Y Z i (Y.length - 1) from rfl)
     have HX1 := Lib.hid (getD_bd HXB.out i)
     have HX2 := Lib.hid (getD_bd HXB.out (i + 1))
     have HXLT := Lib.hid (next_lt HG.out.ax hlt)
     obtain ⟨xb, xo, rfl, hxc⟩ := HXV.out (List.ne_nil_of_length_pos (by omega))
     have cx0 := hxc i _ (List.getElem?_eq_getElem (by omega))
     have cx1 := hxc (i + 1) _ (List.getElem?_eq_getElem hlt)
     rw [show X[i] = X.getD i 0 by simp [List.getD, (show i < X.length by omega)]] at cx0
     rw [show X[i + 1] = X.getD (i + 1) 0 by simp [List.getD, hlt]] at cx1
     simp only [In.at, Nat.mul_one] at cx0 cx1
     have HCX0 := Lib.hid cx0
     have HCX1 := Lib.hid cx1
     clear hxc cx0 cx1
     have HGY := Lib.hid (fun k (hk : k + 1 ≤ Y.length) => gridY_le HG.out HOK.out hlt hk)
     have HYS := Lib.hid (show ∀ k, gridY bs X Y Z i (k + 1) = gridY bs X Y Z i k + gridZ Z ((X.getD (i + 1) 0 - X.getD i 0) * (Y.getD (k + 1) 0 - Y.getD k 0)) (gridC bs X Y Z i k) (Z.length - 1) from fun k => rfl)
     have HGC := Lib.hid (show ∀ k m, gridC bs X Y Z i k m = bs.any (boxG (X.getD i 0) (X.getD (i + 1) 0) (Y.getD k 0) (Y.getD (k + 1) 0) (Z.getD m 0) (Z.getD (m + 1) 0)) from fun k m => rfl)
     have HGY0 := Lib.hid (show gridY bs X Y Z i 0 = 0 from rfl)
     obtain ⟨SN, hSN⟩ : ∃ S, S = gridX bs X Y Z (i + 1) := ⟨_, rfl⟩
     have HSN := Lib.hid (show gridX bs X Y Z (i + 1) = SN from hSN.symm)
     rw [← hSN] at HSS
     clear hSN
     generalize gridX bs X Y Z i = SI at *
     generalize gridY bs X Y Z i = GY at *
     generalize gridC bs X Y Z i = GC at *
     generalize X.getD (i + 1) 0 = x2 at *
     generalize X.getD i 0 = x1 at *
     have GY0 : GY 0 = 0 := HGY0.out
     go_wp2_with fail
     go_loopw [10, 12] (fun sv kv wq => ∃ (k : Nat), kv = .int .i64 (k : Int) ∧ sv = .int .i64 (SI + GY k) ∧ Hid (k = 0 ∨ k + 1 ≤ Y.length) ∧ Below w8.heap.size w8 wq) (fun _ kv _ => Y.length - (intOf kv).toNat)
     case atStart => exact ⟨0, rfl, by rw [GY0]; simp, Lib.hid (.inl rfl), Below.refl _ _⟩
     case round =>
      obtain ⟨k, rfl, rfl, HKL, hb⟩ := hrel
      obtain ⟨w9, hw9⟩ : ∃ wo : World, wo = wr := ⟨_, rfl⟩
      subst hw9
      have HBK := Lib.hid hb
      have HBWK := Lib.hid (HBI.out.trans (hb.mono HBI.out.size))
      have hye := HUY.out
      have v2 : IntKind.i64.wrap ((k : Int) + 1) = ((k + 1 : Nat) : Int) := by
       have := HKL.out
       rw [show (k : Int) + 1 = ((k + 1 : Nat) : Int) by omega]; exact IntWalk.i64_in _ (by omega)
      by_cases hlt2 : k + 1 < Y.length
      ·have hkk : ((k + 1 : Nat) : Int) < (Y.length : Int) := by omega
       have HY1 := Lib.hid (getD_bd HYB.out k)
       have HY2 := Lib.hid (getD_bd HYB.out (k + 1))
       have HYLT := Lib.hid (next_lt HG.out.ay hlt2)
       obtain ⟨yb, yo, rfl, hyc⟩ := HYV.out (List.ne_nil_of_length_pos (by omega))
       have cy0 := hyc k _ (List.getElem?_eq_getElem (by omega))
       have cy1 := hyc (k + 1) _ (List.getElem?_eq_getElem hlt2)
       rw [show Y[k] = Y.getD k 0 by simp [List.getD, (show k < Y.length by omega)]] at cy0
       rw [show Y[k + 1] = Y.getD (k + 1) 0 by simp [List.getD, hlt2]] at cy1
       simp only [In.at, Nat.mul_one] at cy0 cy1
       have HCY0 := Lib.hid cy0
       have HCY1 := Lib.hid cy1
       clear hyc cy0 cy1 hb
       have HGYK := Lib.hid (HGY.out k (by omega))
       have HYSK := Lib.hid (HYS.out k)
       have HGCK := Lib.hid (HGC.out k)
       generalize Y.getD (k + 1) 0 = y2 at *
       generalize Y.getD k 0 = y1 at *
       generalize GC k = GCK at *
       obtain ⟨D1, hD1⟩ : ∃ D, D = x2 - x1 := ⟨_, rfl⟩
       obtain ⟨D2, hD2⟩ : ∃ D, D = y2 - y1 := ⟨_, rfl⟩
       have bx1 := HX1.out
       have bx2 := HX2.out
       have by1 := HY1.out
       have by2 := HY2.out
       have bxl := HXLT.out
       have byl := HYLT.out
       have d1 : IntKind.i64.wrap (x2 - x1) = D1 := by rw [hD1]; exact IntWalk.i64_in _ (by omega)
       have d2 : IntKind.i64.wrap (y2 - y1) = D2 := by rw [hD2]; exact IntWalk.i64_in _ (by omega)
       have m1 := mul_le (a := D1) (b := D2) (A := 600000) (B := 600000) (by omega) (by omega) (by omega) (by omega)
       obtain ⟨P1, hP1⟩ : ∃ P, P = D1 * D2 := ⟨_, rfl⟩
       rw [← hD1, ← hD2, ← hP1] at HYSK
       rw [← hP1] at m1
       have p1 : IntKind.i64.wrap (D1 * D2) = P1 := by rw [← hP1]; exact IntWalk.i64_in _ (by omega)
       have HP1 := Lib.hid m1
       have HGZ := Lib.hid (fun m (hm : m + 1 ≤ Z.length) => gridZ_le HG.out.az HZB.out m1.1 GCK hm)
       have HZS := Lib.hid (show ∀ m, gridZ Z P1 GCK (m + 1) = gridZ Z P1 GCK m + if GCK m = true then P1 * (Z.getD (m + 1) 0 - Z.getD m 0) else 0 from fun m => rfl)
       have GZ0 : gridZ Z P1 GCK 0 = 0 := rfl
       clear hD1 hD2 hP1 bx1 bx2 by1 by2 bxl byl m1
       generalize gridZ Z P1 GCK = GZ at *
       obtain ⟨GYN, hGYN⟩ : ∃ S, S = GY (k + 1) := ⟨_, rfl⟩
       have HGYN := Lib.hid (show GY (k + 1) = GYN from hGYN.symm)
       rw [← hGYN] at HYSK
       clear hGYN
       obtain ⟨GYK, hGYK⟩ : ∃ S, S = GY k := ⟨_, rfl⟩
       rw [← hGYK] at HYSK HGYK ⊢
       clear hGYK
       go_wp2_with fail
       go_loopw [10, 13] (fun sv mv wq => ∃ (m : Nat), mv = .int .i64 (m : Int) ∧ sv = .int .i64 (SI + GYK + GZ m) ∧ Hid (m = 0 ∨ m + 1 ≤ Z.length) ∧ Below w9.heap.size w9 wq) (fun _ mv _ => Z.length - (intOf mv).toNat)
       case atStart => exact ⟨0, rfl, by rw [GZ0]; simp, Lib.hid (.inl rfl), Below.refl _ _⟩
       case round =>
        obtain ⟨m, rfl, rfl, HML, hb⟩ := hrel
        obtain ⟨w10, hw10⟩ : ∃ wo : World, wo = wr := ⟨_, rfl⟩
        subst hw10
        have HBM := Lib.hid hb
        have HBWM := Lib.hid (HBWK.out.trans (hb.mono HBWK.out.size))
        have hze := HUZ.out
        have v3 : IntKind.i64.wrap ((m : Int) + 1) = ((m + 1 : Nat) : Int) := by
         have := HML.out
         rw [show (m : Int) + 1 = ((m + 1 : Nat) : Int) by omega]; exact IntWalk.i64_in _ (by omega)
        by_cases hlt3 : m + 1 < Z.length
        ·have hkm : ((m + 1 : Nat) : Int) < (Z.length : Int) := by omega
         have HZ1 := Lib.hid (getD_bd HZB.out m)
         have HZ2 := Lib.hid (getD_bd HZB.out (m + 1))
         have HZLT := Lib.hid (next_lt HG.out.az hlt3)
         obtain ⟨zb, zo, rfl, hzc⟩ := HZV.out (List.ne_nil_of_length_pos (by omega))
         have cz0 := hzc m _ (List.getElem?_eq_getElem (by omega))
         have cz1 := hzc (m + 1) _ (List.getElem?_eq_getElem hlt3)
         rw [show Z[m] = Z.getD m 0 by simp [List.getD, (show m < Z.length by omega)]] at cz0
         rw [show Z[m + 1] = Z.getD (m + 1) 0 by simp [List.getD, hlt3]] at cz1
         simp only [In.at, Nat.mul_one] at cz0 cz1
         have HCZ0 := Lib.hid cz0
         have HCZ1 := Lib.hid cz1
         clear hzc cz0 cz1 hb
         have HGZM := Lib.hid (HGZ.out m (by omega))
         have HZSM := Lib.hid (HZS.out m)
         have HGM := Lib.hid (HGCK.out m)
         generalize Z.getD (m + 1) 0 = z2 at *
         generalize Z.getD m 0 = z1 at *
         generalize GCK m = CM at *
         go_wp2_with fail
         go_loopw [14, 15] (fun fv jv wq => ∃ (j : Nat), j ≤ bs.length ∧ jv = .int .i64 (j : Int) ∧ fv = .bool ((bs.take j).any (boxG x1 x2 y1 y2 z1 z2)) ∧ Below w10.heap.size w10 wq) (fun _ jv _ => bs.length - (intOf jv).toNat)
         case atStart => exact ⟨0, Nat.zero_le _, rfl, rfl, Below.refl _ _⟩
         case round =>
          obtain ⟨j, hj, rfl, rfl, hb⟩ := hrel
          have HBJ := Lib.hid hb
          have HBWJ := Lib.hid (HBWM.out.trans (hb.mono HBWM.out.size))
          have HBJ8 := Lib.hid (HBK.out.trans (HBM.out.mono HBK.out.size))
          have hbl := HBL.out
          have dx0 := cell_keep HBWJ.out HCX0.out
          have dx1 := cell_keep HBWJ.out HCX1.out
          have dy0 := cell_keep HBWJ.out HCY0.out
          have dy1 := cell_keep HBWJ.out HCY1.out
          have dz0 := cell_keep HBWJ.out HCZ0.out
          have dz1 := cell_keep HBWJ.out HCZ1.out
          cases hf : (bs.take j).any (boxG x1 x2 y1 y2 z1 z2) with
          | true =>
           have HC1 := Lib.hid (show CM = true by rw [HGM.out]; exact any_of_take hf)
           have HN := Lib.hid (show GZ (m + 1) = GZ m + P1 * (z2 - z1) by rw [HZSM.out, HC1.out, if_pos rfl])
           clear hb
           by_cases hjl : j < bs.length
           ·have hkj : (j : Int) < (bs.length : Int) := by omega
            as_aux_lemma =>
             obtain ⟨D3, hD3⟩ : ∃ D, D = z2 - z1 := ⟨_, rfl⟩
             have c1 := HZ1.out
             have c2 := HZ2.out
             have c3 := HZLT.out
             have c4 := HSI.out
             have c5 := HGYK.out
             have c6 := HGZM.out
             have c7 := HP1.out
             have d3 : IntKind.i64.wrap (z2 - z1) = D3 := by rw [hD3]; exact IntWalk.i64_in _ (by omega)
             have m2 := mul_le (a := P1) (b := D3) (A := 360000000000) (B := 600000) c7.1 (by omega) (by omega) (by omega)
             obtain ⟨P2, hP2⟩ : ∃ P, P = P1 * D3 := ⟨_, rfl⟩
             rw [← hP2] at m2
             have p2 : IntKind.i64.wrap (P1 * D3) = P2 := by rw [← hP2]; exact IntWalk.i64_in _ (by omega)
             have p3 : IntKind.i64.wrap (SI + GYK + GZ m + P2) = SI + GYK + GZ m + P2 := IntWalk.i64_in _ (by omega)
             have HEND := Lib.hid (show SI + GYK + GZ m + P2 = SI + GYK + GZ (m + 1) by rw [HN.out, hP2, hD3]; omega)
             have k0 := block_lt_of_cell dx0
             have k1 := block_lt_of_cell dy0
             have k2 := block_lt_of_cell dz0
             simp only at k0 k1 k2
             clear hD3 hP2 m2 c1 c2 c3 c4 c5 c6 c7
             go_upto_region 29 with fail
             refine wp_region_grew (by kernel_rfl) (by kernel_rfl) ?_
             repeat (first | go_big_quiet_step (fail) | quiet_step (fail))
             refine wpQuiet_nil ?_
             rintro _ ⟨gg, rfl⟩
             have HFB := Lib.hid (show Below w9.heap.size w9 (grew wr gg) from grewB (HBM.out.trans (HBJ.out.mono HBM.out.size)) (HBM.out.trans (HBJ.out.mono HBM.out.size)).size _)
             go_wp2_with fail
             go_roundw
             case rel => exact ⟨m + 1, by first | rfl | go_num, by rw [HEND.out], Lib.hid (.inr (by omega)), HFB.out⟩
             case measure => first | (simp [intOf]; done) | (simp [intOf]; omega)
           ·have hkj : ¬ (j : Int) < (bs.length : Int) := by omega
            as_aux_lemma =>
             obtain ⟨D3, hD3⟩ : ∃ D, D = z2 - z1 := ⟨_, rfl⟩
             have c1 := HZ1.out
             have c2 := HZ2.out
             have c3 := HZLT.out
             have c4 := HSI.out
             have c5 := HGYK.out
             have c6 := HGZM.out
             have c7 := HP1.out
             have d3 : IntKind.i64.wrap (z2 - z1) = D3 := by rw [hD3]; exact IntWalk.i64_in _ (by omega)
             have m2 := mul_le (a := P1) (b := D3) (A := 360000000000) (B := 600000) c7.1 (by omega) (by omega) (by omega)
             obtain ⟨P2, hP2⟩ : ∃ P, P = P1 * D3 := ⟨_, rfl⟩
             rw [← hP2] at m2
             have p2 : IntKind.i64.wrap (P1 * D3) = P2 := by rw [← hP2]; exact IntWalk.i64_in _ (by omega)
             have p3 : IntKind.i64.wrap (SI + GYK + GZ m + P2) = SI + GYK + GZ m + P2 := IntWalk.i64_in _ (by omega)
             have HEND := Lib.hid (show SI + GYK + GZ m + P2 = SI + GYK + GZ (m + 1) by rw [HN.out, hP2, hD3]; omega)
             have k0 := block_lt_of_cell dx0
             have k1 := block_lt_of_cell dy0
             have k2 := block_lt_of_cell dz0
             simp only at k0 k1 k2
             clear hD3 hP2 m2 c1 c2 c3 c4 c5 c6 c7
             go_upto_region 29 with fail
             refine wp_region_grew (by kernel_rfl) (by kernel_rfl) ?_
             repeat (first | go_big_quiet_step (fail) | quiet_step (fail))
             refine wpQuiet_nil ?_
             rintro _ ⟨gg, rfl⟩
             have HFB := Lib.hid (show Below w9.heap.size w9 (grew wr gg) from grewB (HBM.out.trans (HBJ.out.mono HBM.out.size)) (HBM.out.trans (HBJ.out.mono HBM.out.size)).size _)
             go_wp2_with fail
             go_roundw
             case rel => exact ⟨m + 1, by first | rfl | go_num, by rw [HEND.out], Lib.hid (.inr (by omega)), HFB.out⟩
             case measure => first | (simp [intOf]; done) | (simp [intOf]; omega)
          | false =>
           by_cases hjl : j < bs.length
           ·have hkj : (j : Int) < (bs.length : Int) := by omega
            have HAT := Lib.hid (any_take (p := boxG x1 x2 y1 y2 z1 z2) hjl)
            obtain ⟨bb, bo, rfl, hat⟩ := (HBX7.out.keep HBWJ.out).at_ hjl
            obtain ⟨q, hq⟩ : ∃ q, q = bs[j] := ⟨_, rfl⟩
            rw [← hq] at hat HAT
            rw [hf, Bool.false_or] at HAT
            obtain ⟨b0, b1, b2, b3, b4, b5⟩ := hat
            clear hq hf hb
            go_upto_region 27 with fail
            refine gen_world (fun W => (W.cell? ⟨wr.heap.size, 0, none⟩ = some (.int .i64 q.x1) ∧ W.cell? ⟨wr.heap.size, 1, none⟩ = some (.int .i64 q.y1) ∧ W.cell? ⟨wr.heap.size, 2, none⟩ = some (.int .i64 q.z1) ∧ W.cell? ⟨wr.heap.size, 3, none⟩ = some (.int .i64 q.x2) ∧ W.cell? ⟨wr.heap.size, 4, none⟩ = some (.int .i64 q.y2) ∧ W.cell? ⟨wr.heap.size, 5, none⟩ = some (.int .i64 q.z2)) ∧ Below wr.heap.size wr W) ⟨⟨by simp [go_sem], by simp [go_sem], by simp [go_sem], by simp [go_sem], by simp [go_sem], by simp [go_sem]⟩, by repeat (first | (with_reducible assumption) | exact Below.refl _ _ | (refine Below.setCell ?_ (by first | omega | (simp; omega) | (simp; done)) _) | (refine Below.alloc ?_ (by first | omega | (simp; omega) | (simp; done)) _) | (refine Below.drew ?_))⟩ ?_
            rintro W ⟨⟨s0, s1, s2, s3, s4, s5⟩, hb⟩
            have HBW := Lib.hid (HBJ.out.trans (hb.mono HBJ.out.size))
            have dx0 := cell_keep hb dx0
            have dx1 := cell_keep hb dx1
            have dy0 := cell_keep hb dy0
            have dy1 := cell_keep hb dy1
            have dz0 := cell_keep hb dz0
            have dz1 := cell_keep hb dz1
            clear hb b0 b1 b2 b3 b4 b5
            obtain ⟨gq, hgq⟩ : ∃ g, g = wr.heap.size := ⟨_, rfl⟩
            rw [← hgq] at s0 s1 s2 s3 s4 s5 ⊢
            clear hgq
            have k0 := block_lt_of_cell dx0
            have k1 := block_lt_of_cell dy0
            have k2 := block_lt_of_cell dz0
            have k3 := block_lt_of_cell s0
            simp only at k0 k1 k2 k3
            by_cases t1 : q.x1 ≤ x1
            rotate_left
            ·have et1 : decide (q.x1 ≤ x1) = false := decide_eq_false t1
             have HPB := Lib.hid (show boxG x1 x2 y1 y2 z1 z2 q = false by unfold boxG; simp [t1])
             as_aux_lemma =>
              refine wp_region_grew (by kernel_rfl) (by kernel_rfl) ?_
              repeat (first | go_big_quiet_step (fail) | quiet_step (fail))
              refine wpQuiet_nil ?_
              rintro _ ⟨gg, rfl⟩
              have HFB := Lib.hid (show Below w10.heap.size w10 (grew W gg) from grewB HBW.out HBW.out.size _)
              go_wp2_with fail
              go_roundw
              case rel => exact ⟨j + 1, by omega, by go_num, by rw [HAT.out, HPB.out], HFB.out⟩
              case measure => first | (simp [intOf]; done) | (simp [intOf]; omega)
            have et1 : decide (q.x1 ≤ x1) = true := decide_eq_true t1
            by_cases t2 : x2 ≤ q.x2
            rotate_left
            ·have et2 : decide (x2 ≤ q.x2) = false := decide_eq_false t2
             have HPB := Lib.hid (show boxG x1 x2 y1 y2 z1 z2 q = false by unfold boxG; simp [t1, t2])
             as_aux_lemma =>
              refine wp_region_grew (by kernel_rfl) (by kernel_rfl) ?_
              repeat (first | go_big_quiet_step (fail) | quiet_step (fail))
              refine wpQuiet_nil ?_
              rintro _ ⟨gg, rfl⟩
              have HFB := Lib.hid (show Below w10.heap.size w10 (grew W gg) from grewB HBW.out HBW.out.size _)
              go_wp2_with fail
              go_roundw
              case rel => exact ⟨j + 1, by omega, by go_num, by rw [HAT.out, HPB.out], HFB.out⟩
              case measure => first | (simp [intOf]; done) | (simp [intOf]; omega)
            have et2 : decide (x2 ≤ q.x2) = true := decide_eq_true t2
            by_cases t3 : q.y1 ≤ y1
            rotate_left
            ·have et3 : decide (q.y1 ≤ y1) = false := decide_eq_false t3
             have HPB := Lib.hid (show boxG x1 x2 y1 y2 z1 z2 q = false by unfold boxG; simp [t1, t2, t3])
             as_aux_lemma =>
              refine wp_region_grew (by kernel_rfl) (by kernel_rfl) ?_
              repeat (first | go_big_quiet_step (fail) | quiet_step (fail))
              refine wpQuiet_nil ?_
              rintro _ ⟨gg, rfl⟩
              have HFB := Lib.hid (show Below w10.heap.size w10 (grew W gg) from grewB HBW.out HBW.out.size _)
              go_wp2_with fail
              go_roundw
              case rel => exact ⟨j + 1, by omega, by go_num, by rw [HAT.out, HPB.out], HFB.out⟩
              case measure => first | (simp [intOf]; done) | (simp [intOf]; omega)
            have et3 : decide (q.y1 ≤ y1) = true := decide_eq_true t3
            by_cases t4 : y2 ≤ q.y2
            rotate_left
            ·have et4 : decide (y2 ≤ q.y2) = false := decide_eq_false t4
             have HPB := Lib.hid (show boxG x1 x2 y1 y2 z1 z2 q = false by unfold boxG; simp [t1, t2, t3, t4])
             as_aux_lemma =>
              refine wp_region_grew (by kernel_rfl) (by kernel_rfl) ?_
              repeat (first | go_big_quiet_step (fail) | quiet_step (fail))
              refine wpQuiet_nil ?_
              rintro _ ⟨gg, rfl⟩
              have HFB := Lib.hid (show Below w10.heap.size w10 (grew W gg) from grewB HBW.out HBW.out.size _)
              go_wp2_with fail
              go_roundw
              case rel => exact ⟨j + 1, by omega, by go_num, by rw [HAT.out, HPB.out], HFB.out⟩
              case measure => first | (simp [intOf]; done) | (simp [intOf]; omega)
            have et4 : decide (y2 ≤ q.y2) = true := decide_eq_true t4
            by_cases t5 : q.z1 ≤ z1
            rotate_left
            ·have et5 : decide (q.z1 ≤ z1) = false := decide_eq_false t5
             have HPB := Lib.hid (show boxG x1 x2 y1 y2 z1 z2 q = false by unfold boxG; simp [t1, t2, t3, t4, t5])
             as_aux_lemma =>
              refine wp_region_grew (by kernel_rfl) (by kernel_rfl) ?_
              repeat (first | go_big_quiet_step (fail) | quiet_step (fail))
              refine wpQuiet_nil ?_
              rintro _ ⟨gg, rfl⟩
              have HFB := Lib.hid (show Below w10.heap.size w10 (grew W gg) from grewB HBW.out HBW.out.size _)
              go_wp2_with fail
              go_roundw
              case rel => exact ⟨j + 1, by omega, by go_num, by rw [HAT.out, HPB.out], HFB.out⟩
              case measure => first | (simp [intOf]; done) | (simp [intOf]; omega)
            have et5 : decide (q.z1 ≤ z1) = true := decide_eq_true t5
            by_cases t6 : z2 ≤ q.z2
            rotate_left
            ·have et6 : decide (z2 ≤ q.z2) = false := decide_eq_false t6
             have HPB := Lib.hid (show boxG x1 x2 y1 y2 z1 z2 q = false by unfold boxG; simp [t1, t2, t3, t4, t5, t6])
             as_aux_lemma =>
              refine wp_region_grew (by kernel_rfl) (by kernel_rfl) ?_
              repeat (first | go_big_quiet_step (fail) | quiet_step (fail))
              refine wpQuiet_nil ?_
              rintro _ ⟨gg, rfl⟩
              have HFB := Lib.hid (show Below w10.heap.size w10 (grew W gg) from grewB HBW.out HBW.out.size _)
              go_wp2_with fail
              go_roundw
              case rel => exact ⟨j + 1, by omega, by go_num, by rw [HAT.out, HPB.out], HFB.out⟩
              case measure => first | (simp [intOf]; done) | (simp [intOf]; omega)
            have et6 : decide (z2 ≤ q.z2) = true := decide_eq_true t6
            have HPB := Lib.hid (show boxG x1 x2 y1 y2 z1 z2 q = true by unfold boxG; simp [t1, t2, t3, t4, t5, t6])
            as_aux_lemma =>
             refine wp_region_grew (by kernel_rfl) (by kernel_rfl) ?_
             repeat (first | go_big_quiet_step (fail) | quiet_step (fail))
             refine wpQuiet_nil ?_
             rintro _ ⟨gg, rfl⟩
             have HFB := Lib.hid (show Below w10.heap.size w10 (grew W gg) from grewB HBW.out HBW.out.size _)
             go_wp2_with fail
             go_roundw
             case rel => exact ⟨j + 1, by omega, by go_num, by rw [HAT.out, HPB.out], HFB.out⟩
             case measure => first | (simp [intOf]; done) | (simp [intOf]; omega)
           ·have hkj : ¬ (j : Int) < (bs.length : Int) := by omega
            obtain rfl : j = bs.length := by omega
            have HC1 := Lib.hid (show CM = false by rw [HGM.out, ← hf, List.take_length])
            have HN := Lib.hid (show GZ (m + 1) = GZ m by rw [HZSM.out, HC1.out]; simp)
            clear hb
            go_wp2_with fail
            go_roundw
            case rel => exact ⟨m + 1, by first | rfl | go_num, by rw [HN.out], Lib.hid (.inr (by omega)), HBM.out.trans (HBJ.out.mono HBM.out.size)⟩
            case measure => first | (simp [intOf]; done) | (simp [intOf]; omega)
        ·have hkm : ¬ ((m + 1 : Nat) : Int) < (Z.length : Int) := by omega
         have HME2 := Lib.hid (show m = Z.length - 1 by have := HML.out; omega)
         have HSE := Lib.hid (show SI + GYK + GZ m = SI + GYN by rw [HYSK.out, HME2.out]; omega)
         clear hb
         go_wp2_with fail
         go_roundw
         case rel => exact ⟨k + 1, by first | rfl | go_num, by rw [HSE.out, HGYN.out], Lib.hid (.inr (by omega)), HBK.out.trans (HBM.out.mono HBK.out.size)⟩
         case measure => first | (simp [intOf]; done) | (simp [intOf]; omega)
      ·have hkk : ¬ ((k + 1 : Nat) : Int) < (Y.length : Int) := by omega
       have HKE := Lib.hid (show k = Y.length - 1 by have := HKL.out; omega)
       have HSE := Lib.hid (show SI + GY k = SN by rw [HSS.out, HKE.out])
       clear hb
       go_wp2_with fail
       go_roundw
       case rel => exact ⟨i + 1, by first | rfl | go_num, by rw [HSE.out, HSN.out], Lib.hid (.inr (by omega)), HBWK.out⟩
       case measure => first | (simp [intOf]; done) | (simp [intOf]; omega)
    ·have hki : ¬ ((i + 1 : Nat) : Int) < (X.length : Int) := by omega
     have HIE := Lib.hid (show i = X.length - 1 by have := HIL.out; omega)
     have HTE2 := Lib.hid (show T = gridX bs X Y Z i by rw [HTE.out, HIE.out, HVOL.out])
     clear hb
     go_wp2_with fail
     refine bodyPost_ret (v := .tuple #[.int .i64 (gridX bs X Y Z i), .int .i64 0]) (by simp [results, Tryz.results44, go_sem]) rfl ⟨by rw [HME.out, HTE2.out], HBWA.out.trans (HBI.out.mono HBWA.out.size)⟩
end Go.Proofs.YtbhgkadklklmbaaGreat
