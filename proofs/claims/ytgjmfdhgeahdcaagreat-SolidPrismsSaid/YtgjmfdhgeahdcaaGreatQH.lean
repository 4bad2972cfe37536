/- An append of a whole row; slices.Concat of rows of planes. -/
import Derived.Test.YtgjmfdhgeahdcaaGreatQG
import Derived.Lib.AppendZerosOnto
import Derived.Lib.Walk
import Derived.Test.YtgjmfdhgeahdcaaGreatQD
set_option linter.unusedVariables false
set_option linter.unusedSimpArgs false
namespace Go.Proofs.YtgjmfdhgeahdcaaGreat
open Go Go.RowKit

section
variable {P : Program} {w : World} {α : Type} {enc : α → List Value} {k : Nat}
/-- An append of a row, empty or not, to a row of the call's own. -/
theorem run_append_rows (hk : ∀ x, (enc x).length = k) (h1 : ∀ x, ∀ v ∈ enc x, v.oneCell' = true) (hk0 : 0 < k) (base : Nat) (t ty e : TypeId) (i : TypeInfo) (z : Value) (bytes : Nat) (ht : P.underlying t = some (.slice e)) (hi : P.info? e = some i) (hz : i.zero = some z)
    (hsize : i.size = k) (hby : i.bytes = bytes) (hzs : z.cells.size = k) (hb2 : bytes ≤ 100) (v : Value) (n : Nat) (xs : List Value) (hown : w.ownsRow base e k v n xs)
    (a : Option Addr) (l : List α) (c : Nat) (hv : l ≠ [] → ∃ ad, a = some ad ∧ ∀ j u, (l.flatMap enc)[j]? = some u → w.cell? (ad.add j) = some u) (hn : n + l.length ≤ 1000000) (hb : base ≤ w.heap.size) :
    ∃ v' w', (Builtin.append_ #[t, t] ty #[v, .slice a l.length c]).run P w = .ok v' w' ∧ w'.ownsRow base e k v' (n + l.length) (xs ++ l.flatMap enc) ∧ w.grownBy w' v.ownBlock ∧ (v'.ownBlock = v.ownBlock ∨ v'.ownBlock = some w.heap.size) := by
 by_cases hl : l = []
 ·subst hl
  refine ⟨v, w, ?_, by simpa using hown, ⟨rfl, rfl, rfl, Nat.le_refl _, fun _ _ _ => rfl⟩, .inl rfl⟩
  have hf : (Builtin.firstCells k 0 (.slice a 0 c)).run P w = .ok #[] w := by
   cases a with
   | none => exact run_firstCells_none w k 0 0 c
   | some a => exact run_firstCells_some w k 0 a 0 c [] (by simp) (by simp)
  rcases hown.2 with ⟨rfl, rfl⟩ | ⟨g, cap, cur, rfl, _, _, hnc, _⟩
  ·simp [Builtin.append_, run_underlying ht, sizeOf, typeInfo, hi, hsize, Builtin.lenOf, hf]
  ·simp [Builtin.append_, run_underlying ht, sizeOf, typeInfo, hi, hsize, Builtin.lenOf, hf, hnc, storeCells]
 ·obtain ⟨ad, rfl, hc⟩ := hv hl
  have hpos : 0 < l.length := List.length_pos_iff.2 hl
  obtain ⟨v', w', h2, h3, h4, h5⟩ := run_append_here (P := P) w base t ty e i z k bytes ht hi hz hsize hby hzs hk0 v n xs hown ad l.length c (l.flatMap enc) (flat_len hk l) hc (flat_one h1 l) hpos (by unfold maxLen; omega)
   (by have := Nat.mul_le_mul hn hb2; omega) hb
  exact ⟨v', w', h2, h3, h4, h5⟩
theorem wp_append_rows (hk : ∀ x, (enc x).length = k) (h1 : ∀ x, ∀ v ∈ enc x, v.oneCell' = true) (hk0 : 0 < k) {o : Oper} {ac : Act} {K : Act → World → Prop} {Q : Exit → Act → World → Prop} (s x : Operand) (t : TypeId) (ho : o.op = .call { callee := .builtin .append, args := #[s, x], argTypes := #[t, t] })
    (base : Nat) (e : TypeId) (i : TypeInfo) (z : Value) (bytes : Nat) (ht : P.underlying t = some (.slice e)) (hi : P.info? e = some i) (hz : i.zero = some z)
    (hsize : i.size = k) (hby : i.bytes = bytes) (hzs : z.cells.size = k) (hb2 : bytes ≤ 100) (v : Value) (n : Nat) (xs : List Value) (hs : ac.eval s = v) (hown : w.ownsRow base e k v n xs)
    (a : Option Addr) (l : List α) (c : Nat) (hx : ac.eval x = .slice a l.length c) (hv : l ≠ [] → ∃ ad, a = some ad ∧ ∀ j u, (l.flatMap enc)[j]? = some u → w.cell? (ad.add j) = some u) (hn : n + l.length ≤ 1000000) (hb : base ≤ w.heap.size)
    (h : ∀ v' w', w'.ownsRow base e k v' (n + l.length) (xs ++ l.flatMap enc) → w.grownBy w' v.ownBlock → (v'.ownBlock = v.ownBlock ∨ v'.ownBlock = some w.heap.size) → K (ac.put o.dst v') w') : o.wp P ac w K Q := by
 obtain ⟨v', w', hr, h2, h3, h4⟩ := run_append_rows hk h1 hk0 base t o.type e i z bytes ht hi hz hsize hby hzs hb2 v n xs hown a l c hv hn hb
 unfold Oper.wp execOp
 simp only [ho, resolve, invoke, builtin, Sem.run_bind, Sem.run_pure, Result.andThen_ok, List.map_toArray, List.map_cons, List.map_nil, hs, hx, hr]
 exact h v' w' h2 h3 h4
theorem wpList_append_rows (hk : ∀ x, (enc x).length = k) (h1 : ∀ x, ∀ v ∈ enc x, v.oneCell' = true) (hk0 : 0 < k) {ops : Array Oper} {rest : List Oper} {o : Oper} {ac : Act} {Q : Exit → Act → World → Prop} (hgd : o.guard = none) (s x : Operand) (t : TypeId) (ho : o.op = .call { callee := .builtin .append, args := #[s, x], argTypes := #[t, t] })
    (base : Nat) (e : TypeId) (i : TypeInfo) (z : Value) (bytes : Nat) (ht : P.underlying t = some (.slice e)) (hi : P.info? e = some i) (hz : i.zero = some z)
    (hsize : i.size = k) (hby : i.bytes = bytes) (hzs : z.cells.size = k) (hb2 : bytes ≤ 100) (v : Value) (n : Nat) (xs : List Value) (hs : ac.eval s = v) (hown : w.ownsRow base e k v n xs)
    (a : Option Addr) (l : List α) (c : Nat) (hx : ac.eval x = .slice a l.length c) (hv : l ≠ [] → ∃ ad, a = some ad ∧ ∀ j u, (l.flatMap enc)[j]? = some u → w.cell? (ad.add j) = some u) (hn : n + l.length ≤ 1000000) (hb : base ≤ w.heap.size)
    (h : ∀ v' w', w'.ownsRow base e k v' (n + l.length) (xs ++ l.flatMap enc) → w.grownBy w' v.ownBlock → (v'.ownBlock = v.ownBlock ∨ v'.ownBlock = some w.heap.size) → wpList P ops Q rest (ac.put o.dst v') w') : wpList P ops Q (o :: rest) ac w :=
 wpList_plain hgd fun _ hK => wp_append_rows hk h1 hk0 s x t ho base e i z bytes ht hi hz hsize hby hzs hb2 v n xs hs hown a l c hx hv hn hb fun v' w' h2 h3 h4 => hK _ _ (h v' w' h2 h3 h4)
end
theorem plsNews {w : World} {a : Option Addr} {l : List Pl} (h : Pls.V w a l) : l ≠ [] → ∃ ad, a = some ad ∧ ∀ j u, (l.flatMap cellsPl)[j]? = some u → w.cell? (ad.add j) = some u := fun hne => by
 obtain ⟨b, off, rfl, _⟩ := h hne
 exact ⟨_, rfl, row_news cellsPl_len (by decide) (fun _ _ _ h => Pl_cells h) h⟩
set_option maxRecDepth 100000 in
set_option maxHeartbeats 2000000 in
theorem growPl_any (n : Nat) (w : World) (hn : n ≤ 1000000) : Calls Tryz.prog 117 #[.slice none 0 0, .int .i64 (n : Int)] w fun e w' => ∃ v, e = .returned v ∧ w'.ownsRow w.heap.size 43 4 v 0 [] ∧ Below w.heap.size w w' := by
 obtain ⟨i0, hi, hz0, hz1, hz2⟩ := info_parts infoPl
 by_cases h0 : n = 0
 ·subst h0
  go_enter Tryz.func117, Tryz.ntmps117
  go_wp2_with fail
  go_ret
  exact ⟨_, rfl, World.ownsRow_nil _ _ _ _, Below.refl _ _⟩
 ·have hn1 : ¬ ((n : Int) < 0) := by omega
  have hn2 : (n : Int) > 0 := by omega
  have v0 : IntKind.i64.wrap (n : Int) = (n : Int) := IntWalk.i64_in _ (by omega)
  have hold : (Builtin.firstCells i0.size 0 (.slice none 0 0)).run Tryz.prog w.drew = .ok ([] : List Value).toArray w.drew := run_firstCells_none w.drew i0.size 0 0 0
  have hrz : ∀ ty, (Builtin.append_ #[44, 3] ty #[.slice none 0 0, .int .i64 (n : Int)]).run Tryz.prog w = .ok (.slice (some ⟨w.heap.size, 0, none⟩) n (grownCap w n 0 43)) (w.drew.alloc (.cells (#[] ++ Builtin.zeroCells (Value.agg #[.int .i64 0, .int .i64 0, .int .i64 0, .int .i64 0]).cells n ++ Builtin.zeroCells (Value.agg #[.int .i64 0, .int .i64 0, .int .i64 0, .int .i64 0]).cells (grownCap w n 0 43 - n)) 43)) := fun ty => by
   have h := Lib.run_append_grow_zeros w 44 3 ty 43 i0 _ .i64 .i64 Tryz.underlying44 Tryz.underlying3 hi hz0 none 0 0 [] hold n (by omega) (by rw [hz1]; decide) (by omega) (by omega) (by rw [hz2]; omega) (by rw [Nat.zero_add]; exact growslice_fits (by omega) (by rw [hz2]; omega))
   rw [Nat.zero_add] at h
   exact h
  have hG := grownCap_ge w n 0 43
  have hG2 := grownCap_le_maxLen w n 0 43 (by unfold maxLen; omega)
  have HOW := Lib.hid (World.ownsRow_made (e := 43) (base := w.heap.size) (size := 4) w.drew (#[] ++ Builtin.zeroCells (Value.agg #[.int .i64 0, .int .i64 0, .int .i64 0, .int .i64 0]).cells n ++ Builtin.zeroCells (Value.agg #[.int .i64 0, .int .i64 0, .int .i64 0, .int .i64 0]).cells (grownCap w n 0 43 - n)) (grownCap w n 0 43) (Nat.le_refl _) hG2 (by simp [Builtin.zeroCells, Value.cells]; omega))
  have HBE := Lib.hid ((Below.refl w.heap.size w).drew.alloc (Nat.le_refl _) (.cells (#[] ++ Builtin.zeroCells (Value.agg #[.int .i64 0, .int .i64 0, .int .i64 0, .int .i64 0]).cells n ++ Builtin.zeroCells (Value.agg #[.int .i64 0, .int .i64 0, .int .i64 0, .int .i64 0]).cells (grownCap w n 0 43 - n)) 43))
  unfold maxLen at hG2
  generalize grownCap w n 0 43 = G at *
  generalize (#[] ++ Builtin.zeroCells (Value.agg #[.int .i64 0, .int .i64 0, .int .i64 0, .int .i64 0]).cells n ++ Builtin.zeroCells (Value.agg #[.int .i64 0, .int .i64 0, .int .i64 0, .int .i64 0]).cells (G - n)) = cs at *
  clear hold
  go_enter Tryz.func117, Tryz.ntmps117
  go_wp2_with (at_builtin; refine Lib.wpList_append_run _ rfl _ _ _ _ rfl _ _ rfl rfl _ _ (hrz _) ?_)
  all_goals (go_ret; exact ⟨_, rfl, HOW.out, HBE.out⟩)
structure RowSl where
 a : Option Addr
 l : List Pl
 c : Nat
instance : Inhabited RowSl := ⟨⟨none, [], 0⟩⟩
/-- Rows of planes, told by a row of slices. -/
structure RowsAt (w : World) (g : Nat) (R : List RowSl) : Prop where
 c : ∀ i (hi : i < R.length), w.cell? ⟨g, i, none⟩ = some (.slice R[i].a R[i].l.length R[i].c)
 v : ∀ r ∈ R, Pls.V w r.a r.l
theorem RowsAt.keep {w w' : World} {g : Nat} {R : List RowSl} (h : RowsAt w g R) (hb : Below w.heap.size w w') : RowsAt w' g R := ⟨fun i hi => cell_keep hb (h.c i hi), fun r hr => (h.v r hr).keep hb⟩
def lenTo (R : List RowSl) (k : Nat) : Nat := ((R.take k).flatMap (·.l)).length
theorem lenTo_succ {R : List RowSl} {k : Nat} (hk : k < R.length) : lenTo R (k + 1) = lenTo R k + R[k].l.length := by
 unfold lenTo; rw [List.take_succ_eq_append_getElem hk, List.flatMap_append, List.length_append]; simp
theorem flat_succ {R : List RowSl} {k : Nat} (hk : k < R.length) : (R.take (k + 1)).flatMap (·.l) = (R.take k).flatMap (·.l) ++ R[k].l := by
 rw [List.take_succ_eq_append_getElem hk, List.flatMap_append]; simp
theorem lenTo_le {R : List RowSl} {k : Nat} : lenTo R k ≤ (R.flatMap (·.l)).length := by
 unfold lenTo
 have h : (R.flatMap (·.l)) = (R.take k).flatMap (·.l) ++ (R.drop k).flatMap (·.l) := by rw [← List.flatMap_append, List.take_append_drop]
 rw [h, List.length_append]; omega
set_option maxRecDepth 100000 in
set_option maxHeartbeats 4000000 in
theorem concatPl_any (g c0 : Nat) (R : List RowSl) (w : World) (hR : RowsAt w g R) (hl : (R.flatMap (·.l)).length ≤ 100000) (hn : R.length ≤ 100) :
    Calls Tryz.prog 80 #[.slice (some ⟨g, 0, none⟩) R.length c0] w fun e w' => ∃ v, e = .returned v ∧ w'.ownsRow w.heap.size 43 4 v (R.flatMap (·.l)).length ((R.flatMap (·.l)).flatMap cellsPl) ∧ Below w.heap.size w w' := by
 obtain ⟨i0, hi0, hz0, hz1, hz2⟩ := info_parts infoPl
 have HR := Lib.hid hR
 clear hR
 have HL := Lib.hid hl
 clear hl
 go_enter Tryz.func80, Tryz.ntmps80
 go_wp2_with fail
 go_loopw [3, 11] (fun sv iv wr => ∃ k : Nat, k ≤ R.length ∧ iv = .int .i64 (k : Int) ∧ sv = .int .i64 ((lenTo R k : Nat) : Int) ∧ Below w.heap.size w wr) (fun _ iv _ => R.length - (intOf iv).toNat)
 case atStart => exact ⟨0, Nat.zero_le _, rfl, rfl, Below.refl _ _⟩
 case round =>
  obtain ⟨k, hk, rfl, rfl, hb⟩ := hrel
  have HB := Lib.hid hb
  have HRW := Lib.hid (HR.out.keep hb)
  clear hb
  by_cases hlt : k < R.length
  ·have hki : (k : Int) < (R.length : Int) := by omega
   have x0 := HRW.out.c k hlt
   have hle := lenTo_le (R := R) (k := k + 1)
   have HS := Lib.hid (lenTo_succ hlt)
   have HLE := Lib.hid (show lenTo R k + R[k].l.length ≤ 100000 by have := HL.out; rw [lenTo_succ hlt] at hle; omega)
   clear hle
   generalize R[k] = r at *
   obtain ⟨ra, rl, rc⟩ := r
   simp only at x0 HS HLE
   generalize hm : lenTo R k = m at HS HLE ⊢
   have v1 : IntKind.i64.wrap ((m : Int) + (rl.length : Int)) = ((m + rl.length : Nat) : Int) := by rw [← Int.natCast_add]; exact IntWalk.i64_in _ (by have := HLE.out; omega)
   have hneg : ¬ ((m + rl.length : Nat) : Int) < 0 := by omega
   clear hm
   go_wp2_with fail
   go_roundw
   case rel => exact ⟨k + 1, by omega, by go_num, by rw [HS.out, Int.natCast_add], HB.out⟩
   case measure => first | (simp [intOf]; done) | (simp [intOf]; omega)
  ·obtain rfl : k = R.length := by omega
   have hki : ¬ ((R.length : Nat) : Int) < ((R.length : Nat) : Int) := by omega
   have hle := lenTo_le (R := R) (k := R.length)
   have HG := Lib.hid (growPl_any (lenTo R R.length) wr (by have := HL.out; omega))
   clear hle
   generalize lenTo R R.length = N at *
   go_wp2_with (go_at_call 117; refine HG.out.mono ?_; rintro e w1 ⟨v, rfl, ho, hb⟩; have HO1 := Lib.hid ho; have HB1 := Lib.hid hb; clear ho hb)
   have HBW1 := Lib.hid (HB.out.trans (HB1.out.mono HB.out.size))
   go_loopw [6, 27] (fun v iv wr => ∃ k : Nat, k ≤ R.length ∧ iv = .int .i64 (k : Int) ∧ wr.ownsRow w.heap.size 43 4 v ((R.take k).flatMap (·.l)).length (((R.take k).flatMap (·.l)).flatMap cellsPl) ∧ Below w.heap.size w wr) (fun _ iv _ => R.length - (intOf iv).toNat)
   case atStart => exact ⟨0, Nat.zero_le _, rfl, own_mono HO1.out HB.out.size, HBW1.out⟩
   case round =>
    obtain ⟨k, hk, rfl, hown, hb⟩ := hrel
    have HO := Lib.hid hown
    have HB2 := Lib.hid hb
    have HRW2 := Lib.hid (HR.out.keep hb)
    obtain ⟨va, vc, rfl, -, -⟩ := own_slice hown
    have hz := hb.size
    clear hb hown
    by_cases hlt : k < R.length
    ·have hki2 : (k : Int) < (R.length : Int) := by omega
     have x0 := HRW2.out.c k hlt
     have hle := lenTo_le (R := R) (k := k + 1)
     have HF := Lib.hid (flat_succ hlt)
     have HPV := Lib.hid (HRW2.out.v _ (List.getElem_mem hlt))
     have HLE := Lib.hid (show ((R.take k).flatMap (·.l)).length + R[k].l.length ≤ 1000000 by have := HL.out; rw [lenTo_succ hlt] at hle; unfold lenTo at hle; omega)
     clear hle
     generalize R[k] = r at *
     obtain ⟨ra, rl, rc⟩ := r
     simp only at x0 HF HLE HPV
     go_wp2_with (at_builtin; refine wpList_append_rows cellsPl_len cellsPl_one (by decide) rfl _ _ 44 rfl w.heap.size 43 i0 _ 32 Tryz.underlying44 hi0 hz0 hz1 hz2 rfl (by decide) (.slice va ((R.take k).flatMap (·.l)).length vc) _ _ rfl HO.out ra rl rc rfl (plsNews HPV.out) HLE.out hz ?_; intro v' w5 ho5 hg5 ha5; have HO5 := Lib.hid ho5; have HB5 := Lib.hid (below_grown HB2.out hg5 hz fun k hk => (own_lt HO.out hk).1); clear ho5 hg5 ha5)
     go_roundw
     case rel => exact ⟨k + 1, by omega, by go_num, by rw [HF.out, List.flatMap_append, List.length_append]; exact HO5.out, HB5.out⟩
     case measure => first | (simp [intOf]; done) | (simp [intOf]; omega)
    ·obtain rfl : k = R.length := by omega
     rw [List.take_length] at HO
     rw [List.take_length]
     go_wp2_with fail
     go_ret
     exact ⟨.slice va (R.flatMap (·.l)).length vc, by simp, by have := HO.out; simpa using this, HB2.out⟩
end Go.Proofs.YtgjmfdhgeahdcaaGreat
/- Bodies put together, settled, compared. -/
set_option linter.unusedVariables false
set_option linter.unusedSimpArgs false
namespace Go.Proofs.YtgjmfdhgeahdcaaGreat
open Go Go.RowKit Go.Sort Go.Lib

theorem concat2_any (g : Nat) (ra : Option Addr) (rp : List Pl) (rc : Nat) (sa : Option Addr) (sp : List Pl) (sc : Nat) (w : World) (h0 : w.cell? ⟨g, 0, none⟩ = some (.slice ra rp.length rc)) (h1 : w.cell? ⟨g, 1, none⟩ = some (.slice sa sp.length sc)) (hr : Pls.V w ra rp) (hs : Pls.V w sa sp) (hl : rp.length + sp.length ≤ 100000) :
    Calls Tryz.prog 80 #[.slice (some ⟨g, 0, none⟩) 2 2] w fun e w' => ∃ va vc, e = .returned (.slice va (rp ++ sp).length vc) ∧ (rp ++ sp).length ≤ vc ∧ w'.ownsRow w.heap.size 43 4 (.slice va (rp ++ sp).length vc) (rp ++ sp).length ((rp ++ sp).flatMap cellsPl) ∧ Below w.heap.size w w' := by
 have h := concatPl_any g 2 [⟨ra, rp, rc⟩, ⟨sa, sp, sc⟩] w ⟨fun i hi => by
  match i, hi with
  | 0, _ => exact h0
  | 1, _ => exact h1, fun x hx => by
   simp only [List.mem_cons, List.not_mem_nil, or_false] at hx
   rcases hx with rfl | rfl
   ·exact hr
   ·exact hs⟩ (by simp; omega) (by simp)
 refine Calls.mono h ?_
 rintro e w' ⟨v, rfl, ho, hb⟩
 simp only [List.flatMap_cons, List.flatMap_nil, List.append_nil] at ho
 obtain ⟨va, vc, rfl, hvc, -⟩ := own_slice ho
 exact ⟨va, vc, rfl, hvc, ho, hb⟩
/-- A body whose rows are new. -/
structure NB (w w' : World) (r : BR) : Prop where
 po : w'.ownsRow w.heap.size 43 4 (.slice r.pa r.ps.length r.pc) r.ps.length (r.ps.flatMap cellsPl)
 co : w'.ownsRow w.heap.size 48 4 (.slice r.ca (corn r.ps).length r.cc) (corn r.ps).length ((corn r.ps).flatMap cellsCo)
 g : Good r.ps
theorem Pl.in_.wf {p : Pl} (h : p.in_) : p.wf := by
 obtain ⟨⟨h1, h2, h3⟩, h4⟩ := h
 simp only [nrm] at h1 h2 h3
 unfold Pl.wf; omega
theorem own_len_le {w : World} {base e k n : Nat} {a : Option Addr} {m c : Nat} {xs : List Value} (h : w.ownsRow base e k (.slice a m c) n xs) : m = n ∧ n ≤ c := by
 rcases h.2 with ⟨e0, h0⟩ | ⟨g, cap, cur, e0, h1, h2, h3, _⟩
 ·injection e0 with e1 e2 e3; omega
 ·injection e0 with e1 e2 e3; omega
theorem NB.ok {w w' : World} {r : BR} (h : NB w w' r) {v : Value} (hv : ∀ g, v.ownBlock = some g → g < w.heap.size) : BRok w' v r :=
 ⟨ownPlV (fun p hp => Pl.in_.wf (h.g p hp).1) h.po, ownCoV (fun c hc => Co.in_.wf (corn_in h.g c hc)) h.co, (own_len_le h.po).2,
  fun b e => by have := own_blk_lt h.po b e; exact ⟨this.2, fun e' => by have := hv b e'; omega⟩, fun b e => by have := own_blk_lt h.co b e; exact ⟨this.2, fun e' => by have := hv b e'; omega⟩⟩
theorem NB.keep {w w' w2 : World} {r : BR} (h : NB w w' r) (hb : Below w'.heap.size w' w2) : NB w w2 r := ⟨own_keep h.po hb, own_keep h.co hb, h.g⟩
theorem NB.mono {w0 w w' : World} {r : BR} (h : NB w w' r) (hz : w0.heap.size ≤ w.heap.size) : NB w0 w' r := ⟨own_mono h.po hz, own_mono h.co hz, h.g⟩
set_option maxRecDepth 100000 in
set_option maxHeartbeats 4000000 in
theorem common_any (r s : BR) (w : World) (hr : Pls.V w r.pa r.ps) (hs : Pls.V w s.pa s.ps) (hg : Good r.ps) (hh : Good s.ps) (hl : r.ps.length + s.ps.length ≤ 40) :
    Calls Tryz.prog 79 #[.agg #[.slice r.pa r.ps.length r.pc, .slice r.ca (corn r.ps).length r.cc], .agg #[.slice s.pa s.ps.length s.pc, .slice s.ca (corn s.ps).length s.cc]] w fun e w' => ∃ q : BR, q.ps = r.ps ++ s.ps ∧ e = .returned (.agg #[.slice q.pa q.ps.length q.pc, .slice q.ca (corn q.ps).length q.cc]) ∧ NB w w' q ∧ Below w.heap.size w w' := by
 have HV := Lib.hid hr
 have HU := Lib.hid hs
 have HGD := Lib.hid (hg.append hh)
 obtain ⟨rp, ra, rc, rca, rcc⟩ := r
 obtain ⟨sp, sa, sc, sca, scc⟩ := s
 simp only at *
 clear hr hs hg hh
 go_enter Tryz.func79, Tryz.ntmps79
 go_upto_region 1 with fail
 refine gen_world (fun W => W.cell? ⟨w.heap.size, 0, none⟩ = some (.slice ra rp.length rc) ∧ W.cell? ⟨w.heap.size + 1, 0, none⟩ = some (.slice sa sp.length sc) ∧ R2 (w.heap.size + 1 + 1) W ∧ Below w.heap.size w W) ⟨by simp [go_sem], by simp [go_sem], ⟨⟨.slice none 0 0, by simp [go_sem], by simp [go_sem]⟩, .slice none 0 0, by simp [go_sem], by simp [go_sem]⟩, by repeat (first | (with_reducible assumption) | exact Below.refl _ _ | (refine Below.setCell ?_ (by first | omega | (simp; omega) | (simp; done)) _) | (refine Below.alloc ?_ (by first | omega | (simp; omega) | (simp; done)) _) | (refine Below.drew ?_))⟩ ?_
 rintro W ⟨b0, b1, hr2, hb⟩
 have HR2 := Lib.hid hr2
 have HB0 := Lib.hid hb
 have hrl := block_lt_of_cell hr2.a.choose_spec.1
 simp only at hrl
 clear hb hr2
 have hz := HB0.out.size
 have HVW := Lib.hid (HV.out.keep HB0.out)
 have HUW := Lib.hid (HU.out.keep HB0.out)
 have HLN := Lib.hid (show (rp ++ sp).length ≤ 40 by simp; omega)
 go_wp2_with (first
  | (go_at_call 80; refine (concat2_any W.heap.size ra rp rc sa sp sc _ (by simp [go_sem]) (by simp [go_sem]) (HVW.out.keep ((Below.refl _ _).alloc (Nat.le_refl _) _)) (HUW.out.keep ((Below.refl _ _).alloc (Nat.le_refl _) _)) (by omega)).mono ?_; rintro e w1 ⟨va, vc, rfl, hvc, ho, hb⟩; have HO1 := Lib.hid ho; have HVC := Lib.hid hvc; have HB1 := Lib.hid (((Below.refl W.heap.size W).alloc (Nat.le_refl _) _).trans (hb.mono (by simp))); have HSZ := Lib.hid hb.size; clear ho hb hvc; generalize hq : rp ++ sp = qp at *; have HQ := Lib.hid hq; clear hq)
  | (go_at_call 36; refine (bodyOf_any qp va vc _ HGD.out HLN.out (ownPlV (fun p hp => Pl.in_.wf (HGD.out p hp).1) HO1.out) HVC.out).mono ?_; rintro e w2 ⟨ca, cc, rfl, ho, hb⟩; have HO2 := Lib.hid ho; have HB2 := Lib.hid hb; have HR3 := Lib.hid ((HR2.out.keep HB1.out).keep hb); obtain ⟨⟨u0, r0, rf0⟩, u1, r1, rf1⟩ := HR3.out; clear ho hb))
 have HBW := Lib.hid (show Below w.heap.size w w2 from HB0.out.trans ((HB1.out.trans (HB2.out.mono HB1.out.size)).mono hz))
 have HO1' := Lib.hid (own_keep HO1.out HB2.out)
 have HF1 : (Value.slice va qp.length vc).ownBlock ≠ some (w.heap.size + 1 + 1) := fun e => by have := (own_lt HO1.out e).1; simp at this; omega
 have HF2 : (Value.slice ca (corn qp).length cc).ownBlock ≠ some (w.heap.size + 1 + 1) := fun e => by have := (own_lt HO2.out e).1; have := HB1.out.size; omega
 refine bodyPost_ret (v := .agg #[.slice va qp.length vc, .slice ca (corn qp).length cc]) ?_ ?_ ?_
 ·simp [results, Tryz.results79, go_sem, (HR3.out.got (.slice va qp.length vc) (.slice ca (corn qp).length cc)).1, (HR3.out.got (.slice va qp.length vc) (.slice ca (corn qp).length cc)).2]
 ·rfl
 ·exact ⟨⟨qp, va, vc, ca, cc⟩, HQ.out.symm, rfl, ⟨own_mono ((HO1'.out.kept (grownBy_set (a := ⟨w.heap.size + 1 + 1, 0, none⟩)) (.inr HF1)).kept (grownBy_set (a := ⟨w.heap.size + 1 + 1, 1, none⟩)) (.inr HF1)) (by simp; omega),
    own_mono ((HO2.out.kept (grownBy_set (a := ⟨w.heap.size + 1 + 1, 0, none⟩)) (.inr HF2)).kept (grownBy_set (a := ⟨w.heap.size + 1 + 1, 1, none⟩)) (.inr HF2)) (by have := HB1.out.size; omega), HGD.out⟩, (HBW.out.setCell (by simp only; omega) _).setCell (by simp only; omega) _⟩
/-- A body that can be computed with. -/
structure BG (w : World) (r : BR) : Prop where
 pls : Pls.V w r.pa r.ps
 cos : Cos.V w r.ca (corn r.ps)
 g : Good r.ps
 l : r.ps.length ≤ 40
theorem BG.keep {w w' : World} {r : BR} (h : BG w r) (hb : Below w.heap.size w w') : BG w' r := ⟨h.pls.keep hb, h.cos.keep hb, h.g, h.l⟩
theorem BG.cl {w : World} {r : BR} (h : BG w r) : (corn r.ps).length ≤ 1000000 := by have := corn_len h.l; omega
theorem BG.ci {w : World} {r : BR} (h : BG w r) : ∀ c ∈ corn r.ps, c.in_ := corn_in h.g
theorem NB.bg {w w' : World} {r : BR} (h : NB w w' r) (hl : r.ps.length ≤ 40) : BG w' r :=
 ⟨ownPlV (fun p hp => Pl.in_.wf (h.g p hp).1) h.po, ownCoV (fun c hc => Co.in_.wf (corn_in h.g c hc)) h.co, h.g, hl⟩
theorem fldCell (a : Option Addr) (n c : Nat) (w : World) : (Instr.field 46 (.agg #[.slice a n c]) 0).run Tryz.prog w = .ok (.slice a n c) w := by kernel_rfl
set_option maxRecDepth 100000 in
set_option maxHeartbeats 4000000 in
theorem settled_any (r : BR) (w : World) (h : BG w r) :
    Calls Tryz.prog 48 #[.agg #[.slice r.pa r.ps.length r.pc, .slice r.ca (corn r.ps).length r.cc]] w fun e w' => ∃ q : BR, q.ps = nf r.ps ∧ e = .returned (.agg #[.slice q.pa q.ps.length q.pc, .slice q.ca (corn q.ps).length q.cc]) ∧ NB w w' q ∧ Below w.heap.size w w' := by
 have H := Lib.hid h
 have HQ0 := Lib.hid (show nor r.ps (corn r.ps) = nf r.ps from rfl)
 have HGD := Lib.hid (show Good (nf r.ps) from h.g.nor _)
 have HLN := Lib.hid (show (nf r.ps).length ≤ 40 from Nat.le_trans (nor_len _ _) h.l)
 obtain ⟨rp, ra, rc, rca, rcc⟩ := r
 simp only at H HQ0 HGD HLN ⊢
 clear h
 go_enter Tryz.func48, Tryz.ntmps48
 go_upto_region 1 with fail
 refine gen_world (fun W => W.cell? ⟨w.heap.size, 0, none⟩ = some (.slice ra rp.length rc) ∧ W.cell? ⟨w.heap.size, 1, none⟩ = some (.slice rca (corn rp).length rcc) ∧ R2 (w.heap.size + 1) W ∧ Below w.heap.size w W) ⟨by simp [go_sem], by simp [go_sem], ⟨⟨.slice none 0 0, by simp [go_sem], by simp [go_sem]⟩, .slice none 0 0, by simp [go_sem], by simp [go_sem]⟩, by repeat (first | (with_reducible assumption) | exact Below.refl _ _ | (refine Below.setCell ?_ (by first | omega | (simp; omega) | (simp; done)) _) | (refine Below.alloc ?_ (by first | omega | (simp; omega) | (simp; done)) _) | (refine Below.drew ?_))⟩ ?_
 rintro W ⟨b0, b1, hr2, hb⟩
 have HR2 := Lib.hid hr2
 have HB0 := Lib.hid hb
 have hrl := block_lt_of_cell hr2.a.choose_spec.1
 simp only at hrl
 clear hb hr2
 have hz := HB0.out.size
 have HW := Lib.hid (H.out.keep HB0.out)
 have HNF := Lib.hid (normalForm_any rp ra rc (corn rp) rca rcc W HW.out.g HW.out.ci HW.out.l HW.out.cl HW.out.pls HW.out.cos)
 rw [HQ0.out] at HNF
 generalize hq : nf rp = qp at HGD HLN HNF ⊢
 have HQ := Lib.hid hq
 clear hq
 have hfl := fldCell
 go_wp2_with (first
  | (go_at_call 37; refine HNF.out.mono ?_; rintro e w1 ⟨va, vc, rfl, ho, hb⟩; have HO1 := Lib.hid ho; have HB1 := Lib.hid hb; clear ho hb)
  | (go_at_call 36; refine (bodyOf_any qp va vc _ HGD.out HLN.out (ownPlV (fun p hp => Pl.in_.wf (HGD.out p hp).1) HO1.out) (own_len_le HO1.out).2).mono ?_; rintro e w2 ⟨ca, cc, rfl, ho, hb⟩; have HO2 := Lib.hid ho; have HB2 := Lib.hid hb; have HR3 := Lib.hid ((HR2.out.keep HB1.out).keep hb); obtain ⟨⟨u0, r0, rf0⟩, u1, r1, rf1⟩ := HR3.out; clear ho hb))
 have HBW := Lib.hid (show Below w.heap.size w w2 from HB0.out.trans ((HB1.out.trans (HB2.out.mono HB1.out.size)).mono hz))
 have HO1' := Lib.hid (own_keep HO1.out HB2.out)
 have HF1 : (Value.slice va qp.length vc).ownBlock ≠ some (w.heap.size + 1) := fun e => by have := (own_lt HO1.out e).1; omega
 have HF2 : (Value.slice ca (corn qp).length cc).ownBlock ≠ some (w.heap.size + 1) := fun e => by have := (own_lt HO2.out e).1; have := HB1.out.size; omega
 refine bodyPost_ret (v := .agg #[.slice va qp.length vc, .slice ca (corn qp).length cc]) ?_ ?_ ?_
 ·simp [results, Tryz.results48, go_sem, (HR3.out.got (.slice va qp.length vc) (.slice ca (corn qp).length cc)).1, (HR3.out.got (.slice va qp.length vc) (.slice ca (corn qp).length cc)).2]
 ·rfl
 ·exact ⟨⟨qp, va, vc, ca, cc⟩, HQ.out.symm, rfl, ⟨own_mono ((HO1'.out.kept (grownBy_set (a := ⟨w.heap.size + 1, 0, none⟩)) (.inr HF1)).kept (grownBy_set (a := ⟨w.heap.size + 1, 1, none⟩)) (.inr HF1)) (by omega),
    own_mono ((HO2.out.kept (grownBy_set (a := ⟨w.heap.size + 1, 0, none⟩)) (.inr HF2)).kept (grownBy_set (a := ⟨w.heap.size + 1, 1, none⟩)) (.inr HF2)) (by have := HB1.out.size; omega), HGD.out⟩, (HBW.out.setCell (by simp only; omega) _).setCell (by simp only; omega) _⟩
/-! Apart. -/
set_option maxHeartbeats 2000000 in
theorem apa2_any (p : Pl) (cs : List Co) (ca : Option Addr) (cc : Nat) (hp : p.in_) (hcs : ∀ c ∈ cs, c.in_) (hcl : cs.length ≤ 1000000) (g : Nat) (w : World) (hc : Cos.V w ca cs) (h1 : w.cell? ⟨g, 1, none⟩ = some (.slice ca cs.length cc)) :
    Calls Tryz.prog 115 #[.agg #[.int .i64 p.a, .int .i64 p.b, .int .i64 p.c, .int .i64 p.d], .pointer (some ⟨g, 0, none⟩)] w fun e w' => e = .returned (.bool (!cs.any fun c => decide (sd p c < 0))) ∧ Below w.heap.size w w' := by
 have hgl := block_lt_of_cell h1
 simp only at hgl
 have HA := Lib.hid (fun (W : World) (hb : Below w.heap.size w W) (h0 : W.cell? ⟨w.heap.size, 0, none⟩ = some (.int .i64 p.a)) (h1 : W.cell? ⟨w.heap.size, 1, none⟩ = some (.int .i64 p.b)) (h2 : W.cell? ⟨w.heap.size, 2, none⟩ = some (.int .i64 p.c)) (h3 : W.cell? ⟨w.heap.size, 3, none⟩ = some (.int .i64 p.d)) =>
  has_apa3 (fun c => decide (sd p c < 0)) ca cs cc (.pointer (some ⟨w.heap.size, 0, none⟩)) W (hc.keep hb) hcl (fun x hx w1 hb1 => apa3_any x p hp (hcs x hx) _ w1 (cell_keep hb1 h0) (cell_keep hb1 h1) (cell_keep hb1 h2) (cell_keep hb1 h3)))
 clear hc hcs
 generalize (cs.any fun c => decide (sd p c < 0)) = B at *
 go_enter Tryz.func115, Tryz.ntmps115
 go_wp2_with (go_at_call 56; refine (HA.out _ ((Below.refl _ _).alloc (Nat.le_refl _) _) (by simp [go_sem]) (by simp [go_sem]) (by simp [go_sem]) (by simp [go_sem])).mono ?_; rintro e w1 ⟨rfl, hb⟩; have HB1 := Lib.hid (((Below.refl w.heap.size w).alloc (Nat.le_refl _) _).trans (hb.mono (by simp))); clear hb)
 go_ret
 exact ⟨rfl, HB1.out⟩
set_option maxHeartbeats 2000000 in
theorem apa1_any (r s : BR) (w : World) (hr : BG w r) (hs : BG w s) :
    Calls Tryz.prog 114 #[.agg #[.slice r.pa r.ps.length r.pc, .slice r.ca (corn r.ps).length r.cc], .agg #[.slice s.pa s.ps.length s.pc, .slice s.ca (corn s.ps).length s.cc]] w fun e w' => e = .returned (.bool (beyM r.ps s.ps)) ∧ Below w.heap.size w w' := by
 have HA := Lib.hid (fun (W : World) (hb : Below w.heap.size w W) (h1 : W.cell? ⟨w.heap.size + 1, 1, none⟩ = some (.slice s.ca (corn s.ps).length s.cc)) =>
  has_apa2 (fun p => !(corn s.ps).any fun c => decide (sd p c < 0)) r.pa r.ps r.pc (.pointer (some ⟨w.heap.size + 1, 0, none⟩)) W (hr.pls.keep hb) (by have := hr.l; omega) (fun x hx w1 hb1 => apa2_any x (corn s.ps) s.ca s.cc (hr.g x hx).1 hs.ci hs.cl _ w1 ((hs.cos.keep hb).keep hb1) (cell_keep hb1 h1)))
 have HE := Lib.hid (show (r.ps.any fun p => !(corn s.ps).any fun c => decide (sd p c < 0)) = beyM r.ps s.ps from rfl)
 rw [HE.out] at HA
 clear hr hs
 generalize beyM r.ps s.ps = B at *
 obtain ⟨rp, ra, rc, rca, rcc⟩ := r
 obtain ⟨sp, sa, sc, sca, scc⟩ := s
 simp only at *
 go_enter Tryz.func114, Tryz.ntmps114
 go_wp2_with (go_at_call 85; refine (HA.out _ (((Below.refl _ _).alloc (Nat.le_refl _) _).alloc (by simp) _) (by simp [go_sem])).mono ?_; rintro e w1 ⟨rfl, hb⟩; have HB1 := Lib.hid ((((Below.refl w.heap.size w).alloc (Nat.le_refl _) _).alloc (by simp) _).trans (hb.mono (by simp; omega))); clear hb)
 go_ret
 exact ⟨rfl, HB1.out⟩
end Go.Proofs.YtgjmfdhgeahdcaaGreat
/- Whether bodies meet; what is left of one outside of another. -/
set_option linter.unusedVariables false
set_option linter.unusedSimpArgs false
namespace Go.Proofs.YtgjmfdhgeahdcaaGreat
open Go Go.RowKit Go.Sort Go.Lib

set_option maxHeartbeats 2000000 in
theorem apart_any (r s : BR) (w : World) (hr : BG w r) (hs : BG w s) :
    Calls Tryz.prog 78 #[.agg #[.slice r.pa r.ps.length r.pc, .slice r.ca (corn r.ps).length r.cc], .agg #[.slice s.pa s.ps.length s.pc, .slice s.ca (corn s.ps).length s.cc]] w fun e w' => e = .returned (.bool (apaM r.ps s.ps)) ∧ Below w.heap.size w w' := by
 have HR := Lib.hid hr
 have HS := Lib.hid hs
 have HA := Lib.hid (fun W (hb : Below w.heap.size w W) => apa1_any r s W (HR.out.keep hb) (HS.out.keep hb))
 have HB := Lib.hid (fun W (hb : Below w.heap.size w W) => apa1_any s r W (HS.out.keep hb) (HR.out.keep hb))
 have HE := Lib.hid (show apaM r.ps s.ps = (beyM r.ps s.ps || beyM s.ps r.ps) from rfl)
 rw [HE.out]
 clear hr hs HR HS HE
 generalize beyM r.ps s.ps = X at *
 generalize beyM s.ps r.ps = Y at *
 obtain ⟨rp, ra, rc, rca, rcc⟩ := r
 obtain ⟨sp, sa, sc, sca, scc⟩ := s
 simp only at HA HB ⊢
 generalize corn rp = CR at *
 generalize corn sp = CS at *
 go_enter Tryz.func78, Tryz.ntmps78
 go_upto_region 2 with fail
 refine gen_world (fun W => (W.cell? ⟨w.heap.size, 0, none⟩ = some (.slice ra rp.length rc) ∧ W.cell? ⟨w.heap.size, 1, none⟩ = some (.slice rca CR.length rcc)) ∧ (W.cell? ⟨w.heap.size + 1, 0, none⟩ = some (.slice sa sp.length sc) ∧ W.cell? ⟨w.heap.size + 1, 1, none⟩ = some (.slice sca CS.length scc)) ∧ Below w.heap.size w W) ⟨⟨by simp [go_sem], by simp [go_sem]⟩, ⟨by simp [go_sem], by simp [go_sem]⟩, by repeat (first | (with_reducible assumption) | exact Below.refl _ _ | (refine Below.setCell ?_ (by first | omega | (simp; omega) | (simp; done)) _) | (refine Below.alloc ?_ (by first | omega | (simp; omega) | (simp; done)) _) | (refine Below.drew ?_))⟩ ?_
 rintro W ⟨⟨b0, b1⟩, ⟨d0, d1⟩, hb⟩
 have HB0 := Lib.hid hb
 clear hb
 have HA1 := Lib.hid (HA.out W HB0.out)
 cases X with
 | true =>
  go_wp2_with (go_at_call 114; refine HA1.out.mono ?_; rintro e w1 ⟨rfl, hb⟩; have HB1 := Lib.hid (HB0.out.trans (hb.mono HB0.out.size)); clear hb)
  go_ret
  exact ⟨rfl, HB1.out⟩
 | false =>
  have tok1 : True := trivial
  go_wp2_with (first
   | (go_at_call 114; have _t := tok1; refine HA1.out.mono ?_; rintro e w1 ⟨rfl, hb⟩; have HB1 := Lib.hid (HB0.out.trans (hb.mono HB0.out.size)); have e0 := cell_keep hb b0; have e1 := cell_keep hb b1; have f0 := cell_keep hb d0; have f1 := cell_keep hb d1; have HB2 := Lib.hid (HB.out w1 HB1.out); clear hb tok1 _t)
   | (go_at_call 114; refine HB2.out.mono ?_; rintro e w2 ⟨rfl, hb⟩; have HB3 := Lib.hid (HB1.out.trans (hb.mono HB1.out.size)); clear hb))
  go_ret
  exact ⟨rfl, HB3.out⟩
set_option maxHeartbeats 2000000 in
theorem meets_any (r s : BR) (w : World) (hr : BG w r) (hs : BG w s) (hl : r.ps.length + s.ps.length ≤ 40) :
    Calls Tryz.prog 49 #[.agg #[.slice r.pa r.ps.length r.pc, .slice r.ca (corn r.ps).length r.cc], .agg #[.slice s.pa s.ps.length s.pc, .slice s.ca (corn s.ps).length s.cc]] w fun e w' => e = .returned (.bool (meetsM r.ps s.ps)) ∧ Below w.heap.size w w' := by
 have HR := Lib.hid hr
 have HS := Lib.hid hs
 have HA := Lib.hid (fun W (hb : Below w.heap.size w W) => apart_any r s W (HR.out.keep hb) (HS.out.keep hb))
 have HC := Lib.hid (fun W (hb : Below w.heap.size w W) => common_any r s W (HR.out.keep hb).pls (HS.out.keep hb).pls hr.g hs.g hl)
 have HSO := Lib.hid (fun (q : BR) (hq : q.ps = r.ps ++ s.ps) W W' (hn : NB W W' q) => solidly_any q.ps q.pa q.pc (corn q.ps) q.ca q.cc W' hn.g (hn.bg (by rw [hq]; simpa using hl)).ci (by rw [hq]; simp; omega) (hn.bg (by rw [hq]; simpa using hl)).cl (hn.bg (by rw [hq]; simpa using hl)).pls (hn.bg (by rw [hq]; simpa using hl)).cos)
 have HE := Lib.hid (show meetsM r.ps s.ps = (!apaM r.ps s.ps && solM (r.ps ++ s.ps)) from rfl)
 have HE2 := Lib.hid (fun (q : BR) (hq : q.ps = r.ps ++ s.ps) => show solB q.ps (corn q.ps) = solM (r.ps ++ s.ps) by rw [hq]; rfl)
 rw [HE.out]
 clear hr hs HR HS HE hl
 generalize apaM r.ps s.ps = X at *
 generalize solM (r.ps ++ s.ps) = Y at *
 obtain ⟨rp, ra, rc, rca, rcc⟩ := r
 obtain ⟨sp, sa, sc, sca, scc⟩ := s
 simp only at HA HC HSO HE2 ⊢
 generalize corn rp = CR at *
 generalize corn sp = CS at *
 go_enter Tryz.func49, Tryz.ntmps49
 go_upto_region 1 with fail
 refine gen_world (fun W => (W.cell? ⟨w.heap.size, 0, none⟩ = some (.slice ra rp.length rc) ∧ W.cell? ⟨w.heap.size, 1, none⟩ = some (.slice rca CR.length rcc)) ∧ (W.cell? ⟨w.heap.size + 1, 0, none⟩ = some (.slice sa sp.length sc) ∧ W.cell? ⟨w.heap.size + 1, 1, none⟩ = some (.slice sca CS.length scc)) ∧ Below w.heap.size w W) ⟨⟨by simp [go_sem], by simp [go_sem]⟩, ⟨by simp [go_sem], by simp [go_sem]⟩, by repeat (first | (with_reducible assumption) | exact Below.refl _ _ | (refine Below.setCell ?_ (by first | omega | (simp; omega) | (simp; done)) _) | (refine Below.alloc ?_ (by first | omega | (simp; omega) | (simp; done)) _) | (refine Below.drew ?_))⟩ ?_
 rintro W ⟨⟨b0, b1⟩, ⟨d0, d1⟩, hb⟩
 have HB0 := Lib.hid hb
 clear hb
 have HA1 := Lib.hid (HA.out W HB0.out)
 cases X with
 | true =>
  go_wp2_with (go_at_call 78; refine HA1.out.mono ?_; rintro e w1 ⟨rfl, hb⟩; have HB1 := Lib.hid (HB0.out.trans (hb.mono HB0.out.size)); clear hb)
  go_ret
  exact ⟨rfl, HB1.out⟩
 | false =>
  go_wp2_with (first
   | (go_at_call 78; refine HA1.out.mono ?_; rintro e w1 ⟨rfl, hb⟩; have HB1 := Lib.hid (HB0.out.trans (hb.mono HB0.out.size)); have e0 := cell_keep hb b0; have e1 := cell_keep hb b1; have f0 := cell_keep hb d0; have f1 := cell_keep hb d1; have HC2 := Lib.hid (HC.out w1 HB1.out); clear hb)
   | (go_at_call 79; refine HC2.out.mono ?_; rintro e w2 ⟨q, hq, rfl, hn, hb⟩; have HB2 := Lib.hid (HB1.out.trans (hb.mono HB1.out.size)); have HSQ := Lib.hid (HSO.out q hq _ _ hn); rw [HE2.out q hq] at HSQ; clear hb hq hn)
   | (go_at_call 55; refine HSQ.out.mono ?_; rintro e w3 ⟨rfl, hb⟩; have HB3 := Lib.hid (HB2.out.trans (hb.mono HB2.out.size)); clear hb))
  go_ret
  exact ⟨rfl, HB3.out⟩
end Go.Proofs.YtgjmfdhgeahdcaaGreat
/- What is left of a body outside of another one. -/
set_option linter.unusedVariables false
set_option linter.unusedSimpArgs false
namespace Go.Proofs.YtgjmfdhgeahdcaaGreat
open Go Go.RowKit Go.Sort Go.Lib

theorem onePl (w : World) (q : Pl) (T : TypeId) (hw : q.wf) : Pls.V (w.alloc (.cells #[.int .i64 q.a, .int .i64 q.b, .int .i64 q.c, .int .i64 q.d] T)) (some ⟨w.heap.size, 0, none⟩) [q] := fun _ =>
 ⟨w.heap.size, 0, rfl, fun k x hk => by
  match k, hk with
  | 0, hk => simp at hk; subst hk; exact ⟨by simp [go_sem], by simp [go_sem], by simp [go_sem], by simp [go_sem], hw⟩
  | k + 1, hk => simp at hk⟩
theorem three (w : World) (ra : Option Addr) (rp : List Pl) (rc : Nat) (da : Option Addr) (dl : List Pl) (dc go : Nat) (op : Pl) (T : TypeId) {k : Nat} (hk : dl.length = k) (hr : Pls.V w ra rp) (hd : Pls.V w da dl) (ho : Pls.V w (some ⟨go, 0, none⟩) [op]) :
    RowsAt (w.alloc (.cells #[.slice ra rp.length rc, .slice da k dc, .slice (some ⟨go, 0, none⟩) 1 1] T)) w.heap.size [⟨ra, rp, rc⟩, ⟨da, dl, dc⟩, ⟨some ⟨go, 0, none⟩, [op], 1⟩] := by
 subst hk
 have hb := (Below.refl w.heap.size w).alloc (Nat.le_refl _) (.cells #[.slice ra rp.length rc, .slice da dl.length dc, .slice (some ⟨go, 0, none⟩) 1 1] T)
 refine ⟨fun i hi => ?_, fun x hx => ?_⟩
 ·match i, hi with
  | 0, _ => simp [go_sem]
  | 1, _ => simp [go_sem]
  | 2, _ => simp [go_sem]
 ·simp only [List.mem_cons, List.not_mem_nil, or_false] at hx
  rcases hx with rfl | rfl | rfl
  ·exact hr.keep hb
  ·exact hd.keep hb
  ·exact ho.keep hb
theorem concat3_any (g : Nat) (w : World) {ra da : Option Addr} {rc dc go : Nat} {rp dl : List Pl} {op : Pl} (h : RowsAt w g [⟨ra, rp, rc⟩, ⟨da, dl, dc⟩, ⟨some ⟨go, 0, none⟩, [op], 1⟩]) (l : List Pl) (hl : l = rp ++ dl ++ [op]) (hn : l.length ≤ 40) :
    Calls Tryz.prog 80 #[.slice (some ⟨g, 0, none⟩) 3 3] w fun e w' => ∃ va vc, e = .returned (.slice va l.length vc) ∧ l.length ≤ vc ∧ w'.ownsRow w.heap.size 43 4 (.slice va l.length vc) l.length (l.flatMap cellsPl) ∧ Below w.heap.size w w' := by
 have e : ([⟨ra, rp, rc⟩, ⟨da, dl, dc⟩, ⟨some ⟨go, 0, none⟩, [op], 1⟩] : List RowSl).flatMap (·.l) = l := by simp [hl]
 have h1 := concatPl_any g 3 _ w h (by rw [e]; omega) (by simp)
 rw [e] at h1
 refine Calls.mono h1 ?_
 rintro e w' ⟨v, rfl, ho, hb⟩
 obtain ⟨va, vc, rfl, hvc, -⟩ := own_slice ho
 exact ⟨va, vc, rfl, hvc, ho, hb⟩
/-- A new place for a body. -/
structure ZB2 (w : World) (g : Nat) : Prop where
 a : w.cell? ⟨g, 0, none⟩ = some (.slice none 0 0) ∧ w.frozen? ⟨g, 0, none⟩ = false
 b : w.cell? ⟨g, 1, none⟩ = some (.slice none 0 0) ∧ w.frozen? ⟨g, 1, none⟩ = false
theorem ZB2.new (w : World) (T : TypeId) : ZB2 (w.alloc (.cells #[.slice none 0 0, .slice none 0 0] T)) w.heap.size := ⟨⟨by simp [go_sem], by simp [go_sem]⟩, by simp [go_sem], by simp [go_sem]⟩
theorem ZB2.keep {w w' : World} {g : Nat} (h : ZB2 w g) (hb : Below w.heap.size w w') : ZB2 w' g :=
 ⟨⟨cell_keep hb h.a.1, by rw [hb.frozen (block_lt_of_cell h.a.1)]; exact h.a.2⟩, cell_keep hb h.b.1, by rw [hb.frozen (block_lt_of_cell h.b.1)]; exact h.b.2⟩
theorem own_zero {w : World} {base e k : Nat} {v : Value} {g o : Nat} {u : Value} (h : w.ownsRow base e k v 0 []) : (w.setCell ⟨g, o, none⟩ u).ownsRow base e k v 0 [] := by
 by_cases hg : v.ownBlock = some g
 ·obtain ⟨a, c, rfl, _, _⟩ := own_slice h
  rcases h.2 with ⟨e0, _⟩ | ⟨g', cap, cur, e0, _⟩
  ·rw [e0] at hg; simp [Value.ownBlock] at hg
  ·injection e0 with e1 _ e3
   subst e1 e3
   have : g' = g := by simpa [Value.ownBlock] using hg
   subst this
   exact own_behind h (by omega)
 ·exact h.kept (grownBy_set (a := ⟨g, o, none⟩)) (.inr hg)
theorem own_off {α : Type} {enc : α → List Value} (hk : ∀ x, (enc x).length = 4) (hi : ∀ x, ∃ z, (enc x)[0]? = some (.int .i64 z)) {w : World} {base e n g : Nat} {v : Value} {l : List α} {A B : Value} (h : w.ownsRow base e 4 v n (l.flatMap enc)) (hz : w.cell? ⟨g, 0, none⟩ = some (.slice none 0 0)) :
    ((w.setCell ⟨g, 0, none⟩ A).setCell ⟨g, 1, none⟩ B).ownsRow base e 4 v n (l.flatMap enc) := by
 by_cases hl : l = []
 ·subst hl
  have hn := own_len hk (by decide) h
  simp only [List.length_nil] at hn
  subst hn
  exact own_zero (own_zero h)
 ·obtain ⟨g', cap, rfl, _, _, _, _, _, hc⟩ := own_cells hk h hl (by decide)
  have hne : (Value.slice (some ⟨g', 0, none⟩) n cap).ownBlock ≠ some g := fun e => by
   have e1 : g' = g := by simpa [Value.ownBlock] using e
   subst e1
   have h0 := (hc 0 (List.length_pos_iff.2 hl) 0 (by decide)).1
   simp only [Nat.zero_mul, Nat.zero_add] at h0
   rw [hz] at h0
   obtain ⟨z, hz'⟩ := hi (l[0]'(List.length_pos_iff.2 hl))
   rw [hz'] at h0; cases h0
  exact (h.kept (grownBy_set (a := ⟨g, 0, none⟩)) (.inr hne)).kept (grownBy_set (a := ⟨g, 1, none⟩)) (.inr hne)
/-- A body of new rows, of few planes. -/
structure NG (z : Nat) (q : BR) : Prop where
 p : ∀ b, blk q.pa = some b → z ≤ b
 c : ∀ b, blk q.ca = some b → z ≤ b
 g : Good q.ps
 l : q.ps.length ≤ 40
 k : q.pc ≤ 9223372036854775807
theorem NG.mono {z z' : Nat} {q : BR} (h : NG z q) (hz : z' ≤ z) : NG z' q := ⟨fun b e => Nat.le_trans hz (h.p b e), fun b e => Nat.le_trans hz (h.c b e), h.g, h.l, h.k⟩
theorem NB.ng {w w' : World} {q : BR} (h : NB w w' q) (hl : q.ps.length ≤ 40) : NG w.heap.size q := ⟨fun b e => (own_blk_lt h.po b e).1, fun b e => (own_blk_lt h.co b e).1, h.g, hl, by
 obtain ⟨a, c, e, -, h2⟩ := own_slice h.po
 injection e with e1 e2 e3
 rw [e3]; exact h2⟩
theorem wo_end {W0 cur : World} {g8 : Nat} {q : BR} {l : List Pl} (hq : q.ps = l) (hc : Below W0.heap.size W0 cur) (hg : W0.heap.size ≤ g8) (hn : NB W0 cur q) (hz : ZB2 cur g8) :
    ∃ (g : Nat) (r : BR), Value.pointer (some ⟨g8, 0, none⟩) = .pointer (some ⟨g, 0, none⟩) ∧ W0.heap.size ≤ g ∧ r.ps = l ∧ NB W0 ((cur.setCell ⟨g8, 0, none⟩ (.slice q.pa q.ps.length q.pc)).setCell ⟨g8, 1, none⟩ (.slice q.ca (corn q.ps).length q.cc)) r ∧
     ((cur.setCell ⟨g8, 0, none⟩ (.slice q.pa q.ps.length q.pc)).setCell ⟨g8, 1, none⟩ (.slice q.ca (corn q.ps).length q.cc)).cell? ⟨g, 0, none⟩ = some (.slice r.pa r.ps.length r.pc) ∧ ((cur.setCell ⟨g8, 0, none⟩ (.slice q.pa q.ps.length q.pc)).setCell ⟨g8, 1, none⟩ (.slice q.ca (corn q.ps).length q.cc)).cell? ⟨g, 1, none⟩ = some (.slice r.ca (corn r.ps).length r.cc) ∧
     Below W0.heap.size W0 ((cur.setCell ⟨g8, 0, none⟩ (.slice q.pa q.ps.length q.pc)).setCell ⟨g8, 1, none⟩ (.slice q.ca (corn q.ps).length q.cc)) := by
 refine ⟨g8, q, rfl, hg, hq, ⟨own_off cellsPl_len (fun x => ⟨_, rfl⟩) hn.po hz.a.1, own_off cellsCo_len (fun x => ⟨_, rfl⟩) hn.co hz.a.1, hn.g⟩, ?_, ?_, (hc.setCell hg _).setCell hg _⟩
 ·rw [cell_set_ne (by simp) rfl rfl]; exact cell_set_same (by rw [hz.a.1]; rfl)
 ·exact cell_set_same (by rw [cell_set_ne (by simp) rfl rfl, hz.b.1]; rfl)
set_option maxRecDepth 100000 in
set_option maxHeartbeats 16000000 in
theorem without_any (r : BR) (ds : List Pl) (da : Option Addr) (dc : Nat) (w : World) (h : BG w r) (hl : r.ps.length + ds.length < 40) (hd : Pls.V w da ds) (hg : Good ds) (hdc : ds.length ≤ dc) :
    Calls Tryz.prog 50 #[.agg #[.slice r.pa r.ps.length r.pc, .slice r.ca (corn r.ps).length r.cc], .slice da ds.length dc] w fun e w' => ∃ (v : Value) (L : List BR), e = .returned v ∧ L.map (·.ps) = cutM r.ps ds ∧ (∀ q ∈ L, BRok w' v q ∧ NG w.heap.size q) ∧ w'.ownsRow w.heap.size 73 2 v L.length (L.flatMap cellsBR) ∧ Below w.heap.size w w' := by
 obtain ⟨i0, hi0, hz0, hz1, hz2⟩ := info_parts bodyInfo
 have hmix : Tryz.prog.follows .mixedOrders = true := by kernel_rfl
 have HRG := Lib.hid h
 have HDG := Lib.hid hg
 have HDV := Lib.hid hd
 obtain ⟨rp, ra, rc, rca, rcc⟩ := r
 simp only at HRG hl ⊢
 clear h hg hd
 go_enter Tryz.func50, Tryz.ntmps50
 go_upto_region 2 with fail
 refine gen_world (fun W => (W.cell? ⟨w.heap.size, 0, none⟩ = some (.slice ra rp.length rc) ∧ W.cell? ⟨w.heap.size, 1, none⟩ = some (.slice rca (corn rp).length rcc)) ∧ Below w.heap.size w W) ⟨⟨by simp [go_sem], by simp [go_sem]⟩, by repeat (first | (with_reducible assumption) | exact Below.refl _ _ | (refine Below.setCell ?_ (by first | omega | (simp; omega) | (simp; done)) _) | (refine Below.alloc ?_ (by first | omega | (simp; omega) | (simp; done)) _) | (refine Below.drew ?_))⟩ ?_
 rintro W ⟨⟨b0, b1⟩, hb⟩
 have HB0 := Lib.hid hb
 have hbl := block_lt_of_cell b0
 simp only at hbl
 clear hb
 go_wp2_with fail
 go_loopw [5, 11] (fun v iv wr => ∃ (k : Nat) (L : List BR), k ≤ ds.length ∧ iv = .int .i64 (k : Int) ∧ Hid (L.map (·.ps) = cutK rp ds k) ∧ Hid (∀ q ∈ L, BRok wr v q ∧ NG w.heap.size q) ∧ Hid (L.length ≤ k) ∧ wr.ownsRow (w.heap.size + 1) 73 2 v L.length (L.flatMap cellsBR) ∧ wr.cell? ⟨w.heap.size, 0, none⟩ = some (.slice ra rp.length rc) ∧ wr.cell? ⟨w.heap.size, 1, none⟩ = some (.slice rca (corn rp).length rcc) ∧ Below w.heap.size w wr) (fun _ iv _ => ds.length - (intOf iv).toNat)
 case atStart => exact ⟨0, [], Nat.zero_le _, rfl, Lib.hid rfl, Lib.hid (fun q hq => absurd hq (by simp)), Lib.hid (Nat.le_refl _), ⟨rfl, .inl ⟨rfl, rfl⟩⟩, b0, b1, HB0.out⟩
 case round =>
  obtain ⟨k, L, hk, rfl, HLP, HLO, HLK, hown, b0, b1, hb⟩ := hrel
  have HB := Lib.hid hb
  have HO := Lib.hid hown
  have HX0 := Lib.hid b0
  have HX1 := Lib.hid b1
  have hz := hb.size
  have hbl0 := block_lt_of_cell b0
  simp only at hbl0
  obtain ⟨va, vc, rfl, -, -⟩ := own_slice hown
  clear hown
  by_cases hlt : k < ds.length
  ·have hki : (k : Int) < (ds.length : Int) := by omega
   obtain ⟨b, off, rfl, hat⟩ := (HDV.out.keep hb).at_ hlt
   obtain ⟨c0, c1, c2, c3, -⟩ := hat
   have HGK := Lib.hid (HDG.out _ (List.getElem_mem hlt))
   have HCS := Lib.hid (cutK_succ rp ds k)
   have HPM := Lib.hid (show partM rp ds k = rp ++ ds.take k ++ [opp ds[k]] by unfold partM; rw [getD_at hlt])
   have HTK := Lib.hid (show (ds.take k).length = k by rw [List.length_take]; omega)
   have HGP := Lib.hid (show Good (partM rp ds k) by
    rw [HPM.out]
    exact (HRG.out.g.append (HDG.out.take k)).append (fun x hx => by simp only [List.mem_singleton] at hx; subst hx; exact opp_good HGK.out))
   have HLEN2 := Lib.hid (show (partM rp ds k).length ≤ 40 by rw [HPM.out]; simp only [List.length_append, HTK.out, List.length_singleton]; omega)
   generalize ds[k] = p at *
   have HOPP := Lib.hid (fun w => opposite_any p (by obtain ⟨⟨⟨h1, h2, h3⟩, h4⟩, -⟩ := HGK.out; simp only [nrm] at h1 h2 h3; omega) w)
   generalize hop : opp p = op at *
   have HOW := Lib.hid (show op.wf from by have := opp_good HGK.out; rw [hop] at this; exact Pl.in_.wf this.1)
   clear hb hop
   go_upto_region 5 with fail
   refine gen_world (fun W0 => Below wr.heap.size wr W0 ∧ PlBx W0 wr.heap.size p) ⟨(Below.refl _ _).alloc (Nat.le_refl _) _, ⟨by simp [go_sem], by simp [go_sem], by simp [go_sem], by simp [go_sem]⟩⟩ ?_
   rintro W0 ⟨hb4, hp4⟩
   have HB4 := Lib.hid hb4
   have HP4 := Lib.hid hp4
   have HX4 := Lib.hid (cell_keep hb4 HX0.out)
   have HX5 := Lib.hid (cell_keep hb4 HX1.out)
   have HBW4 := Lib.hid (HB.out.trans (hb4.mono hz))
   have HRB4 := Lib.hid (HRG.out.keep HBW4.out)
   have HDV4 := Lib.hid (show Pls.V W0 (some ⟨b, off, none⟩) (ds.take k) from RowV.take (HDV.out.keep HBW4.out) k)
   have hz5 := HP4.out.lt
   have hbl4 : w.heap.size < W0.heap.size := by have := HBW4.out.size; omega
   obtain ⟨gb, hgb⟩ : ∃ g, g = w.heap.size := ⟨_, rfl⟩
   have HGB := Lib.hid hgb
   rw [show w.heap.size = gb from hgb.symm] at HX4 HX5 hbl4
   rw [show w.heap.size = gb from hgb.symm]
   generalize hg7 : wr.heap.size = g7 at hp4 HP4 hz5 ⊢
   have HG7 := Lib.hid hg7
   clear hgb hg7 hb4 hp4 c0 c1 c2 c3 b0 b1
   refine wp_cut_slots [16, 17, 18, 19, 20, 21, 22, 23, 24, 25, 26, 8] (fun u W5 => ∃ (g8 : Nat) (q : BR), u 8 = .pointer (some ⟨g8, 0, none⟩) ∧ W0.heap.size ≤ g8 ∧ q.ps = partM rp ds k ∧ NB W0 W5 q ∧ W5.cell? ⟨g8, 0, none⟩ = some (.slice q.pa q.ps.length q.pc) ∧ W5.cell? ⟨g8, 1, none⟩ = some (.slice q.ca (corn q.ps).length q.cc) ∧ Below W0.heap.size W0 W5) ?_ ?_
   ·have kx0 : ∀ y : KW (fun W' => Below W0.heap.size W0 W'), (y.w.cell? ⟨g7, 0, none⟩ = some (.int .i64 p.a) ∧ y.w.cell? ⟨g7, 1, none⟩ = some (.int .i64 p.b) ∧ y.w.cell? ⟨g7, 2, none⟩ = some (.int .i64 p.c) ∧ y.w.cell? ⟨g7, 3, none⟩ = some (.int .i64 p.d)) := fun y => ⟨cell_keep y.ok HP4.out.a, cell_keep y.ok HP4.out.b, cell_keep y.ok HP4.out.c, cell_keep y.ok HP4.out.d⟩
    have kx1 : ∀ y : KW (fun W' => Below W0.heap.size W0 W'), y.w.cell? ⟨gb, 0, none⟩ = some (.slice ra rp.length rc) := fun y => cell_keep y.ok HX4.out
    haveI n1 : Nonempty (KW (fun W' => Below W0.heap.size W0 W')) := ⟨⟨W0, Below.refl _ _⟩⟩
    refine wp_region_tree (fun w' => ∃ y : KW (fun W' => Below W0.heap.size W0 W'), w' = y.w) 12 (.take 0 (.take 1 (.take 2 (.take 3 (.take 4 (.take 5 (.two 6 (.two 7 (.two 8 (.two 9 (.two 10 (.one 11 .done) 11 (.one 10 .done)) 11 (.one 9 (.one 10 .done))) 11 (.one 8 (.one 9 (.one 10 .done)))) 11 (.one 7 (.one 8 (.one 9 (.one 10 .done))))) 11 (.one 6 (.one 7 (.one 8 (.one 9 (.one 10 .done)))))))))))) hmix (by kernel_rfl) (KW.mk' (Below.refl _ _).drew) ?_
    have HC0 := Lib.hid (show Below W0.heap.size W0 W0.drew from (Below.refl _ _).drew)
    have HRB0 := Lib.hid (HRB4.out.keep HC0.out)
    have HDV0 := Lib.hid (HDV4.out.keep HC0.out)
    generalize W0.drew = ww0 at *
    (refine wpTree_take ?_; simp only [nthOp]; (first | go_big_quiet_step (fail) | quiet_step (fail)); refine wpQuiet_nil ?_)
    (refine wpTree_take ?_; simp only [nthOp]; (first | go_big_quiet_step (fail) | quiet_step (fail)); refine wpQuiet_nil ?_)
    (refine wpTree_take ?_; simp only [nthOp]; (first | go_big_quiet_step (fail) | quiet_step (fail)); refine wpQuiet_nil ?_)
    (refine wpTree_take ?_; simp only [nthOp]; (first | go_big_quiet_step (fail) | quiet_step (fail)); refine wpQuiet_nil ?_)
    (refine wpTree_take ?_; simp only [nthOp]; (first | go_big_quiet_step (fail) | quiet_step (fail)); refine wpQuiet_nil ?_)
    (refine wpTree_take ?_; simp only [nthOp]; (first | go_big_quiet_step (fail) | quiet_step (fail)); refine wpQuiet_nil ?_)
    refine wpTree_two ?_ ?_
    ·simp only [nthOp]
     go_wp2_with (go_at_call 81; refine (HOPP.out _).mono ?_; rintro e ww1 ⟨rfl, hb⟩; have HB1 := Lib.hid hb; clear hb)
     have HRB1 := Lib.hid (HRB0.out.keep HB1.out)
     have HDV1 := Lib.hid (HDV0.out.keep HB1.out)
     have HC1 := Lib.hid (HC0.out.trans (HB1.out.mono HC0.out.size))
     refine One_mk (KW.mk' HC1.out) ?_
     refine wpTree_two ?_ ?_
     ·simp only [nthOp]
      go_wp2_with fail
      have HB2 := Lib.hid ((Below.refl ww1.heap.size ww1).alloc (Nat.le_refl _) (.cells #[.int .i64 op.a, .int .i64 op.b, .int .i64 op.c, .int .i64 op.d] 43))
      have HOP2 := Lib.hid (onePl ww1 op 43 HOW.out)
      have HRB2 := Lib.hid (HRB1.out.keep HB2.out)
      have HDV2 := Lib.hid (HDV1.out.keep HB2.out)
      have HC2 := Lib.hid (HC1.out.trans (HB2.out.mono HC1.out.size))
      refine One_mk (KW.mk' HC2.out) ?_
      generalize (ww1.alloc (.cells #[.int .i64 op.a, .int .i64 op.b, .int .i64 op.c, .int .i64 op.d] 43)) = ww2 at *
      generalize ww1.heap.size = go at *
      refine wpTree_two ?_ ?_
      ·simp only [nthOp]
       go_wp2_with fail
       have HB3 := Lib.hid ((Below.refl ww2.heap.size ww2).alloc (Nat.le_refl _) (.cells #[.slice ra rp.length rc, .slice (some ⟨b, off, none⟩) k dc, .slice (some ⟨go, 0, none⟩) 1 1] 44))
       have HRB3 := Lib.hid (HRB2.out.keep HB3.out)
       have HDV3 := Lib.hid (HDV2.out.keep HB3.out)
       have HOP3 := Lib.hid (HOP2.out.keep HB3.out)
       have HRW3 := Lib.hid (three ww2 ra rp rc (some ⟨b, off, none⟩) (ds.take k) dc go op 44 HTK.out HRB2.out.pls HDV2.out HOP2.out)
       have HC3 := Lib.hid (HC2.out.trans (HB3.out.mono HC2.out.size))
       refine One_mk (KW.mk' HC3.out) ?_
       generalize (ww2.alloc (.cells #[.slice ra rp.length rc, .slice (some ⟨b, off, none⟩) k dc, .slice (some ⟨go, 0, none⟩) 1 1] 44)) = ww3 at *
       generalize ww2.heap.size = gs at *
       refine wpTree_two ?_ ?_
       ·simp only [nthOp]
        go_wp2_with (go_at_call 80; refine (concat3_any gs _ HRW3.out (partM rp ds k) HPM.out HLEN2.out).mono ?_; rintro e ww4 ⟨va, vc, rfl, hvc, ho, hb⟩; have HB4 := Lib.hid hb; have HCO4 := Lib.hid (own_mono ho HC3.out.size); have HVC := Lib.hid hvc; clear hb ho hvc)
        have HRB4 := Lib.hid (HRB3.out.keep HB4.out)
        have HDV4 := Lib.hid (HDV3.out.keep HB4.out)
        have HOP4 := Lib.hid (HOP3.out.keep HB4.out)
        have HRW4 := Lib.hid (HRW3.out.keep HB4.out)
        have HC4 := Lib.hid (HC3.out.trans (HB4.out.mono HC3.out.size))
        refine One_mk (KW.mk' HC4.out) ?_
        refine wpTree_two ?_ ?_
        ·simp only [nthOp]
         go_wp2_with (go_at_call 36; refine (bodyOf_any (partM rp ds k) va vc _ HGP.out HLEN2.out (ownPlV (fun x hx => Pl.in_.wf (HGP.out x hx).1) HCO4.out) HVC.out).mono ?_; rintro e ww5 ⟨ca, cc, rfl, ho, hb⟩; have HB5 := Lib.hid hb; have HNB5 := Lib.hid (show NB W0 ww5 ⟨partM rp ds k, va, vc, ca, cc⟩ from ⟨own_keep HCO4.out hb, own_mono ho HC4.out.size, HGP.out⟩); clear hb ho)
         have HRB5 := Lib.hid (HRB4.out.keep HB5.out)
         have HDV5 := Lib.hid (HDV4.out.keep HB5.out)
         have HOP5 := Lib.hid (HOP4.out.keep HB5.out)
         have HRW5 := Lib.hid (HRW4.out.keep HB5.out)
         have HC5 := Lib.hid (HC4.out.trans (HB5.out.mono HC4.out.size))
         refine One_mk (KW.mk' HC5.out) ?_
         refine wpTree_one ?_
         simp only [nthOp]
         go_wp2_with fail
         have HB6 := Lib.hid ((Below.refl ww5.heap.size ww5).alloc (Nat.le_refl _) (.cells #[.slice none 0 0, .slice none 0 0] 73))
         have HZ6 := Lib.hid (ZB2.new ww5 73)
         have HG6 := Lib.hid HC5.out.size
         have HRB6 := Lib.hid (HRB5.out.keep HB6.out)
         have HDV6 := Lib.hid (HDV5.out.keep HB6.out)
         have HOP6 := Lib.hid (HOP5.out.keep HB6.out)
         have HRW6 := Lib.hid (HRW5.out.keep HB6.out)
         have HNB6 := Lib.hid (HNB5.out.keep HB6.out)
         have HC6 := Lib.hid (HC5.out.trans (HB6.out.mono HC5.out.size))
         refine One_mk (KW.mk' HC6.out) ?_
         generalize (ww5.alloc (.cells #[.slice none 0 0, .slice none 0 0] 73)) = ww6 at *
         generalize ww5.heap.size = g8 at *
         obtain ⟨⟨z0, f0⟩, z1, f1⟩ := HZ6.out
         refine wpTree_done ?_
         simp only [List.drop_succ_cons, List.drop_zero]
         go_wp2_with fail
         refine NP_mk ?_
         exact cut_meet (by simp [forget]) (wo_end rfl HC6.out HG6.out HNB6.out HZ6.out)
        ·simp only [nthOp]
         go_wp2_with fail
         have HB7 := Lib.hid ((Below.refl ww4.heap.size ww4).alloc (Nat.le_refl _) (.cells #[.slice none 0 0, .slice none 0 0] 73))
         have HZ7 := Lib.hid (ZB2.new ww4 73)
         have HG7 := Lib.hid HC4.out.size
         have HRB7 := Lib.hid (HRB4.out.keep HB7.out)
         have HDV7 := Lib.hid (HDV4.out.keep HB7.out)
         have HOP7 := Lib.hid (HOP4.out.keep HB7.out)
         have HRW7 := Lib.hid (HRW4.out.keep HB7.out)
         have HCO7 := Lib.hid (own_keep HCO4.out HB7.out)
         have HC7 := Lib.hid (HC4.out.trans (HB7.out.mono HC4.out.size))
         refine One_mk (KW.mk' HC7.out) ?_
         generalize (ww4.alloc (.cells #[.slice none 0 0, .slice none 0 0] 73)) = ww7 at *
         generalize ww4.heap.size = g8 at *
         refine wpTree_one ?_
         simp only [nthOp]
         go_wp2_with (go_at_call 36; refine (bodyOf_any (partM rp ds k) va vc _ HGP.out HLEN2.out (ownPlV (fun x hx => Pl.in_.wf (HGP.out x hx).1) HCO7.out) HVC.out).mono ?_; rintro e ww8 ⟨ca, cc, rfl, ho, hb⟩; have HB8 := Lib.hid hb; have HNB8 := Lib.hid (show NB W0 ww8 ⟨partM rp ds k, va, vc, ca, cc⟩ from ⟨own_keep HCO7.out hb, own_mono ho HC7.out.size, HGP.out⟩); clear hb ho)
         have HRB8 := Lib.hid (HRB7.out.keep HB8.out)
         have HDV8 := Lib.hid (HDV7.out.keep HB8.out)
         have HOP8 := Lib.hid (HOP7.out.keep HB8.out)
         have HRW8 := Lib.hid (HRW7.out.keep HB8.out)
         have HZ8 := Lib.hid (HZ7.out.keep HB8.out)
         have HC8 := Lib.hid (HC7.out.trans (HB8.out.mono HC7.out.size))
         refine One_mk (KW.mk' HC8.out) ?_
         obtain ⟨⟨z0, f0⟩, z1, f1⟩ := HZ8.out
         refine wpTree_done ?_
         simp only [List.drop_succ_cons, List.drop_zero]
         go_wp2_with fail
         refine NP_mk ?_
         exact cut_meet (by simp [forget]) (wo_end rfl HC8.out HG7.out HNB8.out HZ8.out)
       ·simp only [nthOp]
        go_wp2_with fail
        have HB9 := Lib.hid ((Below.refl ww3.heap.size ww3).alloc (Nat.le_refl _) (.cells #[.slice none 0 0, .slice none 0 0] 73))
        have HZ9 := Lib.hid (ZB2.new ww3 73)
        have HG9 := Lib.hid HC3.out.size
        have HRB9 := Lib.hid (HRB3.out.keep HB9.out)
        have HDV9 := Lib.hid (HDV3.out.keep HB9.out)
        have HOP9 := Lib.hid (HOP3.out.keep HB9.out)
        have HRW9 := Lib.hid (HRW3.out.keep HB9.out)
        have HC9 := Lib.hid (HC3.out.trans (HB9.out.mono HC3.out.size))
        refine One_mk (KW.mk' HC9.out) ?_
        generalize (ww3.alloc (.cells #[.slice none 0 0, .slice none 0 0] 73)) = ww9 at *
        generalize ww3.heap.size = g8 at *
        refine wpTree_one ?_
        simp only [nthOp]
        go_wp2_with (go_at_call 80; refine (concat3_any gs _ HRW9.out (partM rp ds k) HPM.out HLEN2.out).mono ?_; rintro e ww10 ⟨va, vc, rfl, hvc, ho, hb⟩; have HB10 := Lib.hid hb; have HCO10 := Lib.hid (own_mono ho HC9.out.size); have HVC := Lib.hid hvc; clear hb ho hvc)
        have HRB10 := Lib.hid (HRB9.out.keep HB10.out)
        have HDV10 := Lib.hid (HDV9.out.keep HB10.out)
        have HOP10 := Lib.hid (HOP9.out.keep HB10.out)
        have HRW10 := Lib.hid (HRW9.out.keep HB10.out)
        have HZ10 := Lib.hid (HZ9.out.keep HB10.out)
        have HC10 := Lib.hid (HC9.out.trans (HB10.out.mono HC9.out.size))
        refine One_mk (KW.mk' HC10.out) ?_
        refine wpTree_one ?_
        simp only [nthOp]
        go_wp2_with (go_at_call 36; refine (bodyOf_any (partM rp ds k) va vc _ HGP.out HLEN2.out (ownPlV (fun x hx => Pl.in_.wf (HGP.out x hx).1) HCO10.out) HVC.out).mono ?_; rintro e ww11 ⟨ca, cc, rfl, ho, hb⟩; have HB11 := Lib.hid hb; have HNB11 := Lib.hid (show NB W0 ww11 ⟨partM rp ds k, va, vc, ca, cc⟩ from ⟨own_keep HCO10.out hb, own_mono ho HC10.out.size, HGP.out⟩); clear hb ho)
        have HRB11 := Lib.hid (HRB10.out.keep HB11.out)
        have HDV11 := Lib.hid (HDV10.out.keep HB11.out)
        have HOP11 := Lib.hid (HOP10.out.keep HB11.out)
        have HRW11 := Lib.hid (HRW10.out.keep HB11.out)
        have HZ11 := Lib.hid (HZ10.out.keep HB11.out)
        have HC11 := Lib.hid (HC10.out.trans (HB11.out.mono HC10.out.size))
        refine One_mk (KW.mk' HC11.out) ?_
        obtain ⟨⟨z0, f0⟩, z1, f1⟩ := HZ11.out
        refine wpTree_done ?_
        simp only [List.drop_succ_cons, List.drop_zero]
        go_wp2_with fail
        refine NP_mk ?_
        exact cut_meet (by simp [forget]) (wo_end rfl HC11.out HG9.out HNB11.out HZ11.out)
      ·simp only [nthOp]
       go_wp2_with fail
       have HB12 := Lib.hid ((Below.refl ww2.heap.size ww2).alloc (Nat.le_refl _) (.cells #[.slice none 0 0, .slice none 0 0] 73))
       have HZ12 := Lib.hid (ZB2.new ww2 73)
       have HG12 := Lib.hid HC2.out.size
       have HRB12 := Lib.hid (HRB2.out.keep HB12.out)
       have HDV12 := Lib.hid (HDV2.out.keep HB12.out)
       have HOP12 := Lib.hid (HOP2.out.keep HB12.out)
       have HC12 := Lib.hid (HC2.out.trans (HB12.out.mono HC2.out.size))
       refine One_mk (KW.mk' HC12.out) ?_
       generalize (ww2.alloc (.cells #[.slice none 0 0, .slice none 0 0] 73)) = ww12 at *
       generalize ww2.heap.size = g8 at *
       refine wpTree_one ?_
       simp only [nthOp]
       go_wp2_with fail
       have HB13 := Lib.hid ((Below.refl ww12.heap.size ww12).alloc (Nat.le_refl _) (.cells #[.slice ra rp.length rc, .slice (some ⟨b, off, none⟩) k dc, .slice (some ⟨go, 0, none⟩) 1 1] 44))
       have HRB13 := Lib.hid (HRB12.out.keep HB13.out)
       have HDV13 := Lib.hid (HDV12.out.keep HB13.out)
       have HOP13 := Lib.hid (HOP12.out.keep HB13.out)
       have HZ13 := Lib.hid (HZ12.out.keep HB13.out)
       have HRW13 := Lib.hid (three ww12 ra rp rc (some ⟨b, off, none⟩) (ds.take k) dc go op 44 HTK.out HRB12.out.pls HDV12.out HOP12.out)
       have HC13 := Lib.hid (HC12.out.trans (HB13.out.mono HC12.out.size))
       refine One_mk (KW.mk' HC13.out) ?_
       generalize (ww12.alloc (.cells #[.slice ra rp.length rc, .slice (some ⟨b, off, none⟩) k dc, .slice (some ⟨go, 0, none⟩) 1 1] 44)) = ww13 at *
       generalize ww12.heap.size = gs at *
       refine wpTree_one ?_
       simp only [nthOp]
       go_wp2_with (go_at_call 80; refine (concat3_any gs _ HRW13.out (partM rp ds k) HPM.out HLEN2.out).mono ?_; rintro e ww14 ⟨va, vc, rfl, hvc, ho, hb⟩; have HB14 := Lib.hid hb; have HCO14 := Lib.hid (own_mono ho HC13.out.size); have HVC := Lib.hid hvc; clear hb ho hvc)
       have HRB14 := Lib.hid (HRB13.out.keep HB14.out)
       have HDV14 := Lib.hid (HDV13.out.keep HB14.out)
       have HOP14 := Lib.hid (HOP13.out.keep HB14.out)
       have HZ14 := Lib.hid (HZ13.out.keep HB14.out)
       have HRW14 := Lib.hid (HRW13.out.keep HB14.out)
       have HC14 := Lib.hid (HC13.out.trans (HB14.out.mono HC13.out.size))
       refine One_mk (KW.mk' HC14.out) ?_
       refine wpTree_one ?_
       simp only [nthOp]
       go_wp2_with (go_at_call 36; refine (bodyOf_any (partM rp ds k) va vc _ HGP.out HLEN2.out (ownPlV (fun x hx => Pl.in_.wf (HGP.out x hx).1) HCO14.out) HVC.out).mono ?_; rintro e ww15 ⟨ca, cc, rfl, ho, hb⟩; have HB15 := Lib.hid hb; have HNB15 := Lib.hid (show NB W0 ww15 ⟨partM rp ds k, va, vc, ca, cc⟩ from ⟨own_keep HCO14.out hb, own_mono ho HC14.out.size, HGP.out⟩); clear hb ho)
       have HRB15 := Lib.hid (HRB14.out.keep HB15.out)
       have HDV15 := Lib.hid (HDV14.out.keep HB15.out)
       have HOP15 := Lib.hid (HOP14.out.keep HB15.out)
       have HZ15 := Lib.hid (HZ14.out.keep HB15.out)
       have HRW15 := Lib.hid (HRW14.out.keep HB15.out)
       have HC15 := Lib.hid (HC14.out.trans (HB15.out.mono HC14.out.size))
       refine One_mk (KW.mk' HC15.out) ?_
       obtain ⟨⟨z0, f0⟩, z1, f1⟩ := HZ15.out
       refine wpTree_done ?_
       simp only [List.drop_succ_cons, List.drop_zero]
       go_wp2_with fail
       refine NP_mk ?_
       exact cut_meet (by simp [forget]) (wo_end rfl HC15.out HG12.out HNB15.out HZ15.out)
     ·simp only [nthOp]
      go_wp2_with fail
      have HB16 := Lib.hid ((Below.refl ww1.heap.size ww1).alloc (Nat.le_refl _) (.cells #[.slice none 0 0, .slice none 0 0] 73))
      have HZ16 := Lib.hid (ZB2.new ww1 73)
      have HG16 := Lib.hid HC1.out.size
      have HRB16 := Lib.hid (HRB1.out.keep HB16.out)
      have HDV16 := Lib.hid (HDV1.out.keep HB16.out)
      have HC16 := Lib.hid (HC1.out.trans (HB16.out.mono HC1.out.size))
      refine One_mk (KW.mk' HC16.out) ?_
      generalize (ww1.alloc (.cells #[.slice none 0 0, .slice none 0 0] 73)) = ww16 at *
      generalize ww1.heap.size = g8 at *
      refine wpTree_one ?_
      simp only [nthOp]
      go_wp2_with fail
      have HB17 := Lib.hid ((Below.refl ww16.heap.size ww16).alloc (Nat.le_refl _) (.cells #[.int .i64 op.a, .int .i64 op.b, .int .i64 op.c, .int .i64 op.d] 43))
      have HOP17 := Lib.hid (onePl ww16 op 43 HOW.out)
      have HRB17 := Lib.hid (HRB16.out.keep HB17.out)
      have HDV17 := Lib.hid (HDV16.out.keep HB17.out)
      have HZ17 := Lib.hid (HZ16.out.keep HB17.out)
      have HC17 := Lib.hid (HC16.out.trans (HB17.out.mono HC16.out.size))
      refine One_mk (KW.mk' HC17.out) ?_
      generalize (ww16.alloc (.cells #[.int .i64 op.a, .int .i64 op.b, .int .i64 op.c, .int .i64 op.d] 43)) = ww17 at *
      generalize ww16.heap.size = go at *
      refine wpTree_one ?_
      simp only [nthOp]
      go_wp2_with fail
      have HB18 := Lib.hid ((Below.refl ww17.heap.size ww17).alloc (Nat.le_refl _) (.cells #[.slice ra rp.length rc, .slice (some ⟨b, off, none⟩) k dc, .slice (some ⟨go, 0, none⟩) 1 1] 44))
      have HRB18 := Lib.hid (HRB17.out.keep HB18.out)
      have HDV18 := Lib.hid (HDV17.out.keep HB18.out)
      have HZ18 := Lib.hid (HZ17.out.keep HB18.out)
      have HOP18 := Lib.hid (HOP17.out.keep HB18.out)
      have HRW18 := Lib.hid (three ww17 ra rp rc (some ⟨b, off, none⟩) (ds.take k) dc go op 44 HTK.out HRB17.out.pls HDV17.out HOP17.out)
      have HC18 := Lib.hid (HC17.out.trans (HB18.out.mono HC17.out.size))
      refine One_mk (KW.mk' HC18.out) ?_
      generalize (ww17.alloc (.cells #[.slice ra rp.length rc, .slice (some ⟨b, off, none⟩) k dc, .slice (some ⟨go, 0, none⟩) 1 1] 44)) = ww18 at *
      generalize ww17.heap.size = gs at *
      refine wpTree_one ?_
      simp only [nthOp]
      go_wp2_with (go_at_call 80; refine (concat3_any gs _ HRW18.out (partM rp ds k) HPM.out HLEN2.out).mono ?_; rintro e ww19 ⟨va, vc, rfl, hvc, ho, hb⟩; have HB19 := Lib.hid hb; have HCO19 := Lib.hid (own_mono ho HC18.out.size); have HVC := Lib.hid hvc; clear hb ho hvc)
      have HRB19 := Lib.hid (HRB18.out.keep HB19.out)
      have HDV19 := Lib.hid (HDV18.out.keep HB19.out)
      have HZ19 := Lib.hid (HZ18.out.keep HB19.out)
      have HOP19 := Lib.hid (HOP18.out.keep HB19.out)
      have HRW19 := Lib.hid (HRW18.out.keep HB19.out)
      have HC19 := Lib.hid (HC18.out.trans (HB19.out.mono HC18.out.size))
      refine One_mk (KW.mk' HC19.out) ?_
      refine wpTree_one ?_
      simp only [nthOp]
      go_wp2_with (go_at_call 36; refine (bodyOf_any (partM rp ds k) va vc _ HGP.out HLEN2.out (ownPlV (fun x hx => Pl.in_.wf (HGP.out x hx).1) HCO19.out) HVC.out).mono ?_; rintro e ww20 ⟨ca, cc, rfl, ho, hb⟩; have HB20 := Lib.hid hb; have HNB20 := Lib.hid (show NB W0 ww20 ⟨partM rp ds k, va, vc, ca, cc⟩ from ⟨own_keep HCO19.out hb, own_mono ho HC19.out.size, HGP.out⟩); clear hb ho)
      have HRB20 := Lib.hid (HRB19.out.keep HB20.out)
      have HDV20 := Lib.hid (HDV19.out.keep HB20.out)
      have HZ20 := Lib.hid (HZ19.out.keep HB20.out)
      have HOP20 := Lib.hid (HOP19.out.keep HB20.out)
      have HRW20 := Lib.hid (HRW19.out.keep HB20.out)
      have HC20 := Lib.hid (HC19.out.trans (HB20.out.mono HC19.out.size))
      refine One_mk (KW.mk' HC20.out) ?_
      obtain ⟨⟨z0, f0⟩, z1, f1⟩ := HZ20.out
      refine wpTree_done ?_
      simp only [List.drop_succ_cons, List.drop_zero]
      go_wp2_with fail
      refine NP_mk ?_
      exact cut_meet (by simp [forget]) (wo_end rfl HC20.out HG16.out HNB20.out HZ20.out)
    ·simp only [nthOp]
     go_wp2_with fail
     have HB21 := Lib.hid ((Below.refl ww0.heap.size ww0).alloc (Nat.le_refl _) (.cells #[.slice none 0 0, .slice none 0 0] 73))
     have HZ21 := Lib.hid (ZB2.new ww0 73)
     have HG21 := Lib.hid HC0.out.size
     have HRB21 := Lib.hid (HRB0.out.keep HB21.out)
     have HDV21 := Lib.hid (HDV0.out.keep HB21.out)
     have HC21 := Lib.hid (HC0.out.trans (HB21.out.mono HC0.out.size))
     refine One_mk (KW.mk' HC21.out) ?_
     generalize (ww0.alloc (.cells #[.slice none 0 0, .slice none 0 0] 73)) = ww21 at *
     generalize ww0.heap.size = g8 at *
     refine wpTree_one ?_
     simp only [nthOp]
     go_wp2_with (go_at_call 81; refine (HOPP.out _).mono ?_; rintro e ww22 ⟨rfl, hb⟩; have HB22 := Lib.hid hb; clear hb)
     have HRB22 := Lib.hid (HRB21.out.keep HB22.out)
     have HDV22 := Lib.hid (HDV21.out.keep HB22.out)
     have HZ22 := Lib.hid (HZ21.out.keep HB22.out)
     have HC22 := Lib.hid (HC21.out.trans (HB22.out.mono HC21.out.size))
     refine One_mk (KW.mk' HC22.out) ?_
     refine wpTree_one ?_
     simp only [nthOp]
     go_wp2_with fail
     have HB23 := Lib.hid ((Below.refl ww22.heap.size ww22).alloc (Nat.le_refl _) (.cells #[.int .i64 op.a, .int .i64 op.b, .int .i64 op.c, .int .i64 op.d] 43))
     have HOP23 := Lib.hid (onePl ww22 op 43 HOW.out)
     have HRB23 := Lib.hid (HRB22.out.keep HB23.out)
     have HDV23 := Lib.hid (HDV22.out.keep HB23.out)
     have HZ23 := Lib.hid (HZ22.out.keep HB23.out)
     have HC23 := Lib.hid (HC22.out.trans (HB23.out.mono HC22.out.size))
     refine One_mk (KW.mk' HC23.out) ?_
     generalize (ww22.alloc (.cells #[.int .i64 op.a, .int .i64 op.b, .int .i64 op.c, .int .i64 op.d] 43)) = ww23 at *
     generalize ww22.heap.size = go at *
     refine wpTree_one ?_
     simp only [nthOp]
     go_wp2_with fail
     have HB24 := Lib.hid ((Below.refl ww23.heap.size ww23).alloc (Nat.le_refl _) (.cells #[.slice ra rp.length rc, .slice (some ⟨b, off, none⟩) k dc, .slice (some ⟨go, 0, none⟩) 1 1] 44))
     have HRB24 := Lib.hid (HRB23.out.keep HB24.out)
     have HDV24 := Lib.hid (HDV23.out.keep HB24.out)
     have HZ24 := Lib.hid (HZ23.out.keep HB24.out)
     have HOP24 := Lib.hid (HOP23.out.keep HB24.out)
     have HRW24 := Lib.hid (three ww23 ra rp rc (some ⟨b, off, none⟩) (ds.take k) dc go op 44 HTK.out HRB23.out.pls HDV23.out HOP23.out)
     have HC24 := Lib.hid (HC23.out.trans (HB24.out.mono HC23.out.size))
     refine One_mk (KW.mk' HC24.out) ?_
     generalize (ww23.alloc (.cells #[.slice ra rp.length rc, .slice (some ⟨b, off, none⟩) k dc, .slice (some ⟨go, 0, none⟩) 1 1] 44)) = ww24 at *
     generalize ww23.heap.size = gs at *
     refine wpTree_one ?_
     simp only [nthOp]
     go_wp2_with (go_at_call 80; refine (concat3_any gs _ HRW24.out (partM rp ds k) HPM.out HLEN2.out).mono ?_; rintro e ww25 ⟨va, vc, rfl, hvc, ho, hb⟩; have HB25 := Lib.hid hb; have HCO25 := Lib.hid (own_mono ho HC24.out.size); have HVC := Lib.hid hvc; clear hb ho hvc)
     have HRB25 := Lib.hid (HRB24.out.keep HB25.out)
     have HDV25 := Lib.hid (HDV24.out.keep HB25.out)
     have HZ25 := Lib.hid (HZ24.out.keep HB25.out)
     have HOP25 := Lib.hid (HOP24.out.keep HB25.out)
     have HRW25 := Lib.hid (HRW24.out.keep HB25.out)
     have HC25 := Lib.hid (HC24.out.trans (HB25.out.mono HC24.out.size))
     refine One_mk (KW.mk' HC25.out) ?_
     refine wpTree_one ?_
     simp only [nthOp]
     go_wp2_with (go_at_call 36; refine (bodyOf_any (partM rp ds k) va vc _ HGP.out HLEN2.out (ownPlV (fun x hx => Pl.in_.wf (HGP.out x hx).1) HCO25.out) HVC.out).mono ?_; rintro e ww26 ⟨ca, cc, rfl, ho, hb⟩; have HB26 := Lib.hid hb; have HNB26 := Lib.hid (show NB W0 ww26 ⟨partM rp ds k, va, vc, ca, cc⟩ from ⟨own_keep HCO25.out hb, own_mono ho HC25.out.size, HGP.out⟩); clear hb ho)
     have HRB26 := Lib.hid (HRB25.out.keep HB26.out)
     have HDV26 := Lib.hid (HDV25.out.keep HB26.out)
     have HZ26 := Lib.hid (HZ25.out.keep HB26.out)
     have HOP26 := Lib.hid (HOP25.out.keep HB26.out)
     have HRW26 := Lib.hid (HRW25.out.keep HB26.out)
     have HC26 := Lib.hid (HC25.out.trans (HB26.out.mono HC25.out.size))
     refine One_mk (KW.mk' HC26.out) ?_
     obtain ⟨⟨z0, f0⟩, z1, f1⟩ := HZ26.out
     refine wpTree_done ?_
     simp only [List.drop_succ_cons, List.drop_zero]
     go_wp2_with fail
     refine NP_mk ?_
     exact cut_meet (by simp [forget]) (wo_end rfl HC26.out HG21.out HNB26.out HZ26.out)
   rintro u W5 ⟨g8, q, hu8, hg8, hqp, hnb, y0, y1, hb5⟩
   simp only [forget, List.foldl_cons, List.foldl_nil, hu8]
   have HQP := Lib.hid hqp
   have HNB := Lib.hid hnb
   have HB5 := Lib.hid hb5
   have HY0 := Lib.hid y0
   have HY1 := Lib.hid y1
   clear hu8 hqp hnb hb5
   have HB15 := Lib.hid (show Below wr.heap.size wr W5 from HB4.out.trans (HB5.out.mono HB4.out.size))
   have HBW5 := Lib.hid (show Below w.heap.size w W5 from HB.out.trans (HB15.out.mono hz))
   have HO5 := Lib.hid (own_keep HO.out HB15.out)
   have HLO5 := Lib.hid (show ∀ x ∈ L, BRok W5 (.slice va L.length vc) x ∧ NG w.heap.size x from fun x hx => ⟨(HLO.out x hx).1.keep HB15.out, (HLO.out x hx).2⟩)
   have X5 := Lib.hid (cell_keep HB15.out HX0.out)
   have X6 := Lib.hid (cell_keep HB15.out HX1.out)
   have HQL := Lib.hid (show q.ps.length ≤ 40 by rw [HQP.out]; exact HLEN2.out)
   have HQB := Lib.hid (HNB.out.bg HQL.out)
   have HSO := Lib.hid (solidly_any q.ps q.pa q.pc (corn q.ps) q.ca q.cc W5 HQB.out.g HQB.out.ci (by have := HQL.out; omega) HQB.out.cl HQB.out.pls HQB.out.cos)
   rw [show solB q.ps (corn q.ps) = solM (partM rp ds k) by rw [HQP.out]; rfl] at HSO
   have HST := Lib.hid (fun W6 (hb : Below W5.heap.size W5 W6) => settled_any q W6 (HQB.out.keep hb))
   have HNP := Lib.hid (show nf q.ps = nf (partM rp ds k) by rw [HQP.out])
   obtain ⟨qp, qa, qc, qca, qcc⟩ := q
   simp only at y0 y1 HSO HST HNP ⊢
   generalize corn qp = CQ at *
   have hg8l := block_lt_of_cell y0
   simp only at hg8l
   obtain rfl := HGB.out
   cases hso : solM (partM rp ds k) with
   | false =>
    rw [hso] at HSO
    have HCS2 := Lib.hid (show cutK rp ds (k + 1) = cutK rp ds k by rw [HCS.out, hso]; simp)
    go_wp2_with (go_at_call 55; refine HSO.out.mono ?_; rintro e w6 ⟨rfl, hb⟩; have HB6 := Lib.hid hb; clear hb)
    go_roundw
    case rel => exact ⟨k + 1, L, by omega, by go_num, Lib.hid (by rw [HLP.out, HCS2.out]), Lib.hid (fun x hx => ⟨(HLO5.out x hx).1.keep HB6.out, (HLO5.out x hx).2⟩), Lib.hid (Nat.le_succ_of_le HLK.out), own_keep HO5.out HB6.out, cell_keep HB6.out X5.out, cell_keep HB6.out X6.out, HBW5.out.trans (HB6.out.mono HBW5.out.size)⟩
    case measure => first | (simp [intOf]; done) | (simp [intOf]; omega)
   | true =>
    rw [hso] at HSO
    have HCS2 := Lib.hid (show cutK rp ds (k + 1) = cutK rp ds k ++ [nf (partM rp ds k)] by rw [HCS.out, hso]; simp)
    go_wp2_with (first
     | (go_at_call 55; refine HSO.out.mono ?_; rintro e w6 ⟨rfl, hb⟩; have HB6 := Lib.hid hb; have y06 := cell_keep hb y0; have y16 := cell_keep hb y1; have HST6 := Lib.hid (HST.out w6 hb); clear hb)
     | (go_at_call 48; refine HST6.out.mono ?_; rintro e w7 ⟨⟨tp, ta, tc, tca, tcc⟩, htp, rfl, hn, hb⟩; have HB7 := Lib.hid (HB6.out.trans (hb.mono HB6.out.size)); have HN7 := Lib.hid (hn.mono HB6.out.size); have HTP := Lib.hid htp; simp only at HTP; clear hb hn htp; generalize hcp : corn tp = CT at *; have HCP := Lib.hid hcp; clear hcp)
     | (at_builtin; refine wpList_append_here _ rfl _ _ 68 rfl (w.heap.size + 1) 73 i0 (.agg #[.slice none 0 0, .slice none 0 0]) 2 48 Tryz.underlying68 hi0 hz0 hz1 hz2 rfl (by decide) (.slice va L.length vc) L.length (L.flatMap cellsBR) rfl (own_keep (own_keep HO5.out HB7.out) ((Below.refl _ _).alloc (Nat.le_refl _) (.cells #[.slice ta tp.length tc, .slice tca CT.length tcc] 73))) ⟨w7.heap.size, 0, none⟩ 1 1 (cellsBR ⟨tp, ta, tc, tca, tcc⟩) rfl rfl (by rw [show cellsBR ⟨tp, ta, tc, tca, tcc⟩ = [.slice ta tp.length tc, .slice tca CT.length tcc] by rw [← HCP.out]; rfl]; exact news_of _ _ _ _ rfl) (cellsBR_one _) (by decide) (by have := HLK.out; simp only [maxLen]; omega) (by have := HLK.out; omega) (by have := HBW5.out.size; have := HB7.out.size; simp; omega) ?_; intro v' w10 hown10 hgr10 hat10; have HG10 := Lib.hid hgr10; have HA10 := Lib.hid hat10; have HO10 := Lib.hid hown10; clear hown10 hgr10 hat10))
    have hk7 := (Below.refl w7.heap.size w7).alloc (Nat.le_refl _) (.cells #[.slice ta tp.length tc, .slice tca CT.length tcc] 73)
    have HB8 := Lib.hid (HB7.out.trans (hk7.mono HB7.out.size))
    have HFIN := Lib.hid (show (∀ x ∈ L ++ [⟨tp, ta, tc, tca, tcc⟩], BRok w10 v' x ∧ NG w.heap.size x) ∧ w10.ownsRow (w.heap.size + 1) 73 2 v' (L ++ [(⟨tp, ta, tc, tca, tcc⟩ : BR)]).length ((L ++ [(⟨tp, ta, tc, tca, tcc⟩ : BR)]).flatMap cellsBR) ∧ Below w.heap.size w w10 ∧ w10.cell? ⟨w.heap.size, 0, none⟩ = some (.slice ra rp.length rc) ∧ w10.cell? ⟨w.heap.size, 1, none⟩ = some (.slice rca (corn rp).length rcc) from by
     have hoff : (Value.slice va L.length vc).ownBlock ≠ some w.heap.size := fun e => by have := (own_lt HO.out e).1; omega
     refine ⟨fun x hx => ?_, by rw [List.flatMap_append, List.length_append]; simpa using HO10.out, below_grown (HBW5.out.trans (HB8.out.mono HBW5.out.size)) HG10.out (by have := HBW5.out.size; have := HB8.out.size; omega) (fun g hg => by have := (own_lt HO5.out hg).1; omega), grown_cell HG10.out (cell_keep HB8.out X5.out) hoff, grown_cell HG10.out (cell_keep HB8.out X6.out) hoff⟩
     rcases List.mem_append.1 hx with hx | hx
     ·exact ⟨((HLO5.out x hx).1.keep HB8.out).grown HG10.out HA10.out, (HLO5.out x hx).2⟩
     ·simp only [List.mem_singleton] at hx; subst hx
      exact ⟨((HN7.out.ok (fun g hg => by have := (own_lt HO5.out hg).2; omega)).keep hk7).grown HG10.out HA10.out, (HN7.out.ng (by simp only [HTP.out]; have := nor_len qp (corn qp); have := HQL.out; unfold nf; omega)).mono HBW5.out.size⟩)
    go_roundw
    case rel => exact ⟨k + 1, L ++ [⟨tp, ta, tc, tca, tcc⟩], by omega, by go_num, Lib.hid (by rw [List.map_append, HLP.out, HCS2.out]; simp only [List.map_cons, List.map_nil, HTP.out, HNP.out]), Lib.hid HFIN.out.1, Lib.hid (by have := HLK.out; simp; omega), HFIN.out.2.1, HFIN.out.2.2.2.1, HFIN.out.2.2.2.2, HFIN.out.2.2.1⟩
    case measure => first | (simp [intOf]; done) | (simp [intOf]; omega)
  ·obtain rfl : k = ds.length := by omega
   have hki : ¬ ((ds.length : Nat) : Int) < ((ds.length : Nat) : Int) := by omega
   clear hb b0 b1
   go_wp2_with fail
   go_ret
   exact ⟨_, rfl, L, HLP.out, HLO.out, own_mono HO.out (by omega), HB.out⟩
end Go.Proofs.YtgjmfdhgeahdcaaGreat
