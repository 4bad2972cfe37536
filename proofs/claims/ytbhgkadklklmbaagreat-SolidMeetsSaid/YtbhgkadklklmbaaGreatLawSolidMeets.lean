/- SolidMeets returns true for every input: common cells, joined solids and what is left of a solid without another one are those of the document. No condition. -/
import Derived.Test.YtbhgkadklklmbaaGreatQZ
import Derived.Test.YtbhgkadklklmbaaGreatQW
import Derived.Test.YtbhgkadklklmbaaGreatQP
import Derived.Test.YtbhgkadklklmbaaGreatQS
import Derived.Test.YtbhgkadklklmbaaGreatQO
import Derived.Test.YtbhgkadklklmbaaGreatQM
import Derived.Test.YtbhgkadklklmbaaGreatFactsSolidMeets
set_option linter.unusedVariables false
set_option linter.unusedSimpArgs false
namespace Go.Proofs.YtbhgkadklklmbaaGreat
open Go Go.ChangeShapes Go.WideShapes Go.ChangeAt Go.RowKit Go.Sort Go.Lib

/-- What stands behind one of the first three calls. -/
def M2Cut (p q : Nat) (W : World) (V : List Cell) (E : Int) (u : Nat → Value) (W' : World) : Prop :=
 ∃ (g : Nat) (ka : Option Addr) (kc : Nat), u p = .pointer (some ⟨g, 0, none⟩) ∧ u q = .int .i64 E ∧ W'.cell? ⟨g, 0, none⟩ = some (.slice ka V.length kc) ∧ W'.frozen? ⟨g, 0, none⟩ = false ∧ Cells.V W' ka V ∧ Below W.heap.size W W'
theorem wpList_append_rowsW {P : Program} {α : Type} {w : World} {enc : α → List Value} {k : Nat} (hk : ∀ x, (enc x).length = k) (h1 : ∀ x, ∀ v ∈ enc x, v.oneCell' = true) (hk0 : 0 < k) {ops : Array Oper} {rest : List Oper} {o : Oper} {ac : Act} {Q : Exit → Act → World → Prop} (hwt : Region.wanted o (yielded ops ac.tmps) = true) (s x : Operand) (t : TypeId) (ho : o.op = .call { callee := .builtin .append, args := #[s, x], argTypes := #[t, t] })
    (base : Nat) (e : TypeId) (i : TypeInfo) (z : Value) (bytes : Nat) (ht : P.underlying t = some (.slice e)) (hi : P.info? e = some i) (hz : i.zero = some z)
    (hsize : i.size = k) (hby : i.bytes = bytes) (hzs : z.cells.size = k) (hb2 : bytes ≤ 100) (v : Value) (n : Nat) (xs : List Value) (hs : ac.eval s = v) (hown : w.ownsRow base e k v n xs)
    (a : Option Addr) (l : List α) (c : Nat) (hx : ac.eval x = .slice a l.length c) (hv : l ≠ [] → ∃ ad, a = some ad ∧ ∀ j u, (l.flatMap enc)[j]? = some u → w.cell? (ad.add j) = some u) (hn : n + l.length ≤ 1000000) (hb : base ≤ w.heap.size)
    (h : ∀ v' w', w'.ownsRow base e k v' (n + l.length) (xs ++ l.flatMap enc) → w.grownBy w' v.ownBlock → (v'.ownBlock = v.ownBlock ∨ v'.ownBlock = some w.heap.size) → wpList P ops Q rest (ac.put o.dst v') w') : wpList P ops Q (o :: rest) ac w :=
 wpList_step fun K hK => by rw [if_pos hwt]; exact wp_append_rows hk h1 hk0 s x t ho base e i z bytes ht hi hz hsize hby hzs hb2 v n xs hs hown a l c hx hv hn hb fun v' w' h2 h3 h4 => hK _ _ (h v' w' h2 h3 h4)
theorem few_3 {cs : List Cell} {m : Int} (h : fewB cs m = true) (hl : cs.length ≤ 100) : (cs.length : Int) ≤ m := by
 unfold fewB at h
 simp only [Bool.and_eq_true, Bool.not_eq_true', Bool.or_eq_false_iff, Bool.and_eq_false_iff, decide_eq_false_iff_not] at h
 omega
theorem pieces_100 {n : Nat} : ∀ {y ps r : List (List Pl)}, piecesR n ps y = some r → ps.length ≤ 100 → r.length ≤ 100
 | [], ps, r, h, hl => by rw [piecesR] at h; injection h with h; rw [← h]; exact hl
 | d :: y, ps, r, h, hl => by
  rw [piecesR] at h
  split at h
  ·cases h
  ·rename_i ht
   refine pieces_100 h ?_
   unfold tooMany at ht
   simp only [Bool.or_eq_true, decide_eq_true_eq, not_or] at ht
   omega
theorem left_100 {y : List (List Pl)} : ∀ {x o l : List (List Pl)}, leftR y o x = some l → l.length ≤ o.length + 100 * x.length
 | [], o, l, h => by rw [leftR] at h; injection h with h; rw [← h]; simp
 | c :: x, o, l, h => by
  rw [leftR] at h
  cases hp : piecesR o.length [nf c] y with
  | none => rw [hp] at h; cases h
  | some r =>
   rw [hp] at h
   have h1 := left_100 h
   have h2 := pieces_100 hp (by simp)
   rw [List.length_append] at h1
   rw [List.length_cons]
   omega
theorem bothV_len {A B : List Cell} (h0 : twoE A B = 0) : (bothV A B).length ≤ 100 := by
 obtain ⟨ha, hb⟩ := twoE_zero.1 h0
 rw [(both_same h0).2]
 unfold bothRV
 cases hm : meetR (B.map (·.planes)) [] (A.map (·.planes)) with
 | none => simp
 | some l => exact (meet_val (readX ha) (readX hb) hm).2
theorem leftV_len {A B : List Cell} (h0 : twoE A B = 0) : (leftV A B).length ≤ 100 * A.length := by
 rw [(min_same h0).2]
 unfold leftRV
 cases hm : leftR (B.map (·.planes)) [] (A.map (·.planes)) with
 | none => simp
 | some l => have := left_100 hm; simpa using this
theorem valid_pl {l : List (List Pl)} (h : ∀ q ∈ l, readE q = 0) : ∀ x ∈ l.map Cell.mk, x.planes.length ≤ 100000 := fun x hx => by
 obtain ⟨q, hq, rfl⟩ := List.mem_map.1 hx
 have := (readE_zero.1 (h q hq)).1
 show q.length ≤ 100000
 omega
theorem sameSelf (M : List Cell) (a b : Option Addr) (an bn : Nat) (w : World) (hl : M.length ≤ 1000) (hp : ∀ x ∈ M, x.planes.length ≤ 100000) (hv : Cells.V w a M) (hu : Cells.V w b M) :
    Calls Tryz.prog 58 #[.agg #[.slice a M.length an], .agg #[.slice b M.length bn]] w fun e w' => e = .returned (.bool true) ∧ Below w.heap.size w w' :=
 (sameSolid_any M M a b an bn w hl hl hv hu hp hp).mono fun e w' h => ⟨by rw [h.1]; simp, h.2⟩
set_option maxRecDepth 100000 in
set_option maxHeartbeats 32000000 in
theorem walkSolidMeets (a : Solid) (aa : Option Addr) (ac : Nat) (b : Solid) (ba : Option Addr) (bc : Nat) (w : World) (Va : Cells.V w aa a.cells) (La : a.cells.length ≤ 9223372036854775807) (Ca : a.cells.length ≤ ac) (Vb : Cells.V w ba b.cells) (Lb : b.cells.length ≤ 9223372036854775807) (Cb : b.cells.length ≤ bc) :
    Calls Tryz.prog 13 #[.agg #[.slice aa a.cells.length ac], .agg #[.slice ba b.cells.length bc]] w fun e w' => e = .returned (.bool true) ∧ Below w.heap.size w w' := by
 have hmix : Tryz.prog.follows .mixedOrders = true := by kernel_rfl
 obtain ⟨i0, hi0, hz0, hz1, hz2⟩ := info_parts cellInfo
 obtain ⟨A, hA⟩ : ∃ cs, cs = a.cells := ⟨_, rfl⟩
 obtain ⟨B, hB⟩ : ∃ cs, cs = b.cells := ⟨_, rfl⟩
 rw [← hA] at Va La Ca ⊢
 rw [← hB] at Vb Lb Cb ⊢
 clear hA hB
 have HVA := Lib.hid Va
 have HVB := Lib.hid Vb
 have HAW := Lib.hid awake_any
 have HF1 := Lib.hid (fun W (h : Below w.heap.size w W) => few_any A aa ac 3 W La (Va.keep h) (cells_len Va))
 have HF2 := Lib.hid (fun W (h : Below w.heap.size w W) => few_any B ba bc 3 W Lb (Vb.keep h) (cells_len Vb))
 clear Va Vb
 go_enter Tryz.func13, Tryz.ntmps13
 go_upto_region 1 with fail
 refine gen_world (fun W => W.cell? ⟨w.heap.size, 0, none⟩ = some (.slice aa A.length ac) ∧ W.cell? ⟨w.heap.size + 1, 0, none⟩ = some (.slice ba B.length bc) ∧ Below w.heap.size w W) ⟨by simp [go_sem], by simp [go_sem], by repeat (first | (with_reducible assumption) | exact Below.refl _ _ | (refine Below.setCell ?_ (by first | omega | (simp; omega) | (simp; done)) _) | (refine Below.alloc ?_ (by first | omega | (simp; omega) | (simp; done)) _) | (refine Below.drew ?_))⟩ ?_
 rintro W ⟨a0, b0, hb⟩
 have HB0 := Lib.hid hb
 clear hb
 obtain ⟨gw, hgw⟩ : ∃ g, g = w.heap.size := ⟨_, rfl⟩
 rw [← hgw] at a0 b0 ⊢
 clear hgw
 go_upto_region 3 with (go_at_call 18; refine (HAW.out _).mono ?_; rintro e w1 ⟨rfl, hb⟩; (have a0 := cell_keep hb a0; have b0 := cell_keep hb b0); have HB1 := Lib.hid (HB0.out.trans (hb.mono HB0.out.size)); clear hb)
 by_cases h1 : fewB A 3 = true
 ·have hla := few_len (by decide) h1
  have HPA := Lib.hid (few_pl h1)
  have HA3 := Lib.hid (few_3 h1)
  rw [h1] at HF1
  clear h1
  by_cases h2 : fewB B 3 = true
  ·have hlb := few_len (by decide) h2
   have HPB := Lib.hid (few_pl h2)
   have HB3L := Lib.hid (few_3 h2)
   rw [h2] at HF2
   clear h2
   have HCT := Lib.hid (fun W (h : Below w.heap.size w W) => checkTwoR_any A B aa ac ba bc W La (HVA.out.keep h) (fun x hx => by have := HPA.out x hx; omega) Lb (HVB.out.keep h) (fun x hx => by have := HPB.out x hx; omega))
   have HCM := Lib.hid (fun W ua un va vn (h1 : Cells.V W ua A) (h2 : Cells.V W va B) => meet_any A B ua un va vn W (by omega) h1 (fun x hx => by have := HPA.out x hx; omega) (by omega) h2 (fun x hx => by have := HPB.out x hx; omega))
   have HCJ := Lib.hid (fun W ua un va vn (h1 : Cells.V W ua A) (h2 : Cells.V W va B) => join_any A B ua un va vn W (by omega) h1 (fun x hx => by have := HPA.out x hx; omega) (by omega) h2 (fun x hx => by have := HPB.out x hx; omega))
   have HCL := Lib.hid (fun W ua un va vn (h1 : Cells.V W ua A) (h2 : Cells.V W va B) => minusC_any A B ua un va vn W (by omega) h1 (fun x hx => by have := HPA.out x hx; omega) (by omega) h2 (fun x hx => by have := HPB.out x hx; omega))
   have HC1 := Lib.hid (fun W (h : Below w.heap.size w W) => copySolid_any A aa ac W (by omega) (HVA.out.keep h) (fun x hx => by have := HPA.out x hx; omega))
   have HC3 := Lib.hid (fun W (h : Below w.heap.size w W) => copySolid_any B ba bc W (by omega) (HVB.out.keep h) (fun x hx => by have := HPB.out x hx; omega))
   have HNE5 := Lib.hid (val_ne (both_val (A := A) (B := B)))
   have HNE6 := Lib.hid (join_ne (A := A) (B := B))
   have HNE7 := Lib.hid (val_ne (left_valid (A := A) (B := B)))
   have hlm5 : (bothV A B).length = ((bothV A B).map Cell.mk).length := by simp
   have hlm7 : (leftV A B).length = ((leftV A B).map Cell.mk).length := by simp
   rw [hlm5] at HCM
   rw [hlm7] at HCL
   go_upto_region 5 with (first | (have h := HF1.out; clear HF1; go_at_call 32; refine (h _ HB1.out).mono ?_; clear h; rintro e w2 ⟨rfl, hb⟩; (have a0 := cell_keep hb a0; have b0 := cell_keep hb b0); have HB2 := Lib.hid (HB1.out.trans (hb.mono HB1.out.size)); clear hb) | (have h := HF2.out; clear HF2; go_at_call 32; refine (h _ HB2.out).mono ?_; clear h; rintro e w3 ⟨rfl, hb⟩; (have a0 := cell_keep hb a0; have b0 := cell_keep hb b0); have HB3 := Lib.hid (HB2.out.trans (hb.mono HB2.out.size)); clear hb))
   have HCF := HCM
   have HB5 := HB3
   obtain ⟨W5, hW5⟩ : ∃ W5, W5 = w3 := ⟨_, rfl⟩
   subst hW5
   obtain ⟨V, hVV⟩ : ∃ V, V = (bothV A B).map Cell.mk := ⟨_, rfl⟩
   obtain ⟨EE0, hEE⟩ : ∃ E, E = bothE A B := ⟨_, rfl⟩
   rw [← hVV, ← hEE] at HCF
   refine wp_cut_slots [25, 26, 27, 28, 29, 24, 30, 31, 5, 6] (M2Cut 5 6 W5 V EE0) ?_ ?_
   ·have HNE := Lib.hid (show ∀ x ∈ V, x.planes ≠ [] by rw [hVV]; exact HNE5.out)
    clear hVV hEE
    have kx0 : ∀ y : KW (fun W' => Below W5.heap.size W5 W'), (y.w.cell? ⟨gw, 0, none⟩ = some (.slice aa A.length ac) ∧ y.w.cell? ⟨gw + 1, 0, none⟩ = some (.slice ba B.length bc)) := fun y => ⟨cell_keep y.ok a0, cell_keep y.ok b0⟩
    haveI n1 : Nonempty (KW (fun W' => Below W5.heap.size W5 W')) := ⟨⟨W5, Below.refl _ _⟩⟩
    refine wp_region_tree (fun w' => ∃ y : KW (fun W' => Below W5.heap.size W5 W'), w' = y.w) 10 (.take 0 (.take 2 (.two 1 (.two 3 (.two 4 (.take 5 (.take 6 (.take 7 (.one 8 (.one 9 .done))))) 8 (.one 4 (.take 5 (.take 6 (.take 7 (.one 9 .done)))))) 8 (.one 3 (.one 4 (.take 5 (.take 6 (.take 7 (.one 9 .done))))))) 8 (.one 1 (.one 3 (.one 4 (.take 5 (.take 6 (.take 7 (.one 9 .done)))))))))) hmix (by kernel_rfl) (KW.mk' (Below.refl _ _).drew) ?_
    have HC := Lib.hid (show Below W5.heap.size W5 W5.drew from (Below.refl _ _).drew)
    generalize W5.drew = wz at *
    (refine wpTree_take ?_; simp only [nthOp]; (first | go_big_quiet_step (fail) | quiet_step (fail)); refine wpQuiet_nil ?_)
    (refine wpTree_take ?_; simp only [nthOp]; (first | go_big_quiet_step (fail) | quiet_step (fail)); refine wpQuiet_nil ?_)
    refine wpTree_two ?_ ?_
    ·skip
     simp only [nthOp]
     go_wp2_with (go_at_call 34; refine (HC1.out _ (HB5.out.trans (HC.out.mono HB5.out.size))).mono ?_; rintro e wt1 ⟨ua, un, rfl, hcv, -, hb⟩; have HXA := Lib.hid hcv; have HC := Lib.hid (HC.out.trans (hb.mono HC.out.size)); clear hcv hb)
     refine One_mk (KW.mk' HC.out) ?_
     refine wpTree_two ?_ ?_
     ·skip
      simp only [nthOp]
      go_wp2_with (go_at_call 34; refine (HC3.out _ (HB5.out.trans (HC.out.mono HB5.out.size))).mono ?_; rintro e wt2 ⟨va, vn, rfl, hcv, -, hb⟩; have HXA := Lib.hid (HXA.out.keep hb); have HXB := Lib.hid hcv; have HC := Lib.hid (HC.out.trans (hb.mono HC.out.size)); clear hcv hb)
      refine One_mk (KW.mk' HC.out) ?_
      refine wpTree_two ?_ ?_
      ·skip
       simp only [nthOp]
       have HQ := Lib.hid (HCF.out wt2 ua un va vn HXA.out HXB.out)
       go_wp2_with (go_at_call 46; refine HQ.out.mono ?_; rintro e wt3 ⟨ka, kc, rfl, hkv, hb⟩; have HXA := Lib.hid (HXA.out.keep hb); have HXB := Lib.hid (HXB.out.keep hb); have HKV := Lib.hid hkv; have HC := Lib.hid (HC.out.trans (hb.mono HC.out.size)); clear hkv hb)
       refine One_mk (KW.mk' HC.out) ?_
       clear HQ
       (refine wpTree_take ?_; simp only [nthOp]; (first | go_big_quiet_step (fail) | quiet_step (fail)); refine wpQuiet_nil ?_)
       (refine wpTree_take ?_; simp only [nthOp]; (first | go_big_quiet_step (fail) | quiet_step (fail)); refine wpQuiet_nil ?_)
       (refine wpTree_take ?_; simp only [nthOp]; (first | go_big_quiet_step (fail) | quiet_step (fail)); refine wpQuiet_nil ?_)
       refine wpTree_one ?_
       simp only [nthOp]
       go_wp2_with fail
       have hal := (Below.refl wt3.heap.size wt3).alloc (Nat.le_refl _) (.cells #[.slice none 0 0] 48)
       have HXA := Lib.hid (HXA.out.keep hal)
       have HXB := Lib.hid (HXB.out.keep hal)
       have HKV := Lib.hid (HKV.out.keep hal)
       have HZ := Lib.hid (show (wt3.alloc (.cells #[.slice none 0 0] 48)).cell? ⟨wt3.heap.size, 0, none⟩ = some (.slice none ([] : List Cell).length 0) ∧ (wt3.alloc (.cells #[.slice none 0 0] 48)).frozen? ⟨wt3.heap.size, 0, none⟩ = false from ⟨by simp [go_sem], by simp [go_sem]⟩)
       have HGZ := Lib.hid HC.out.size
       have HC := Lib.hid (HC.out.alloc HC.out.size (.cells #[.slice none 0 0] 48))
       refine One_mk (KW.mk' HC.out) ?_
       clear hal
       generalize (wt3.alloc (.cells #[.slice none 0 0] 48)) = wt4 at *
       generalize wt3.heap.size = gz at *
       refine wpTree_one ?_
       simp only [nthOp]
       obtain ⟨z0, zf0⟩ := HZ.out
       have z0' := z0
       simp only [List.length_nil] at z0'
       go_wp2_with fail
       have HK := Lib.hid (got1 z0 (.slice ka V.length kc))
       have HKF := Lib.hid (show (wt4.setCell ⟨gz, 0, none⟩ (.slice ka V.length kc)).frozen? ⟨gz, 0, none⟩ = false by rw [frozen_set]; exact zf0)
       have HKV := Lib.hid (cells_set HKV.out HNE.out z0 (fun hn => absurd rfl hn) (.slice ka V.length kc))
       have HC := Lib.hid (HC.out.setCell (p := ⟨gz, 0, none⟩) HGZ.out (.slice ka V.length kc))
       clear z0 z0' zf0
       refine One_mk (KW.mk' HC.out) ?_
       generalize (wt4.setCell ⟨gz, 0, none⟩ (.slice ka V.length kc)) = wt5 at *
       refine wpTree_done ?_
       simp only [List.drop_succ_cons, List.drop_zero]
       go_wp2_with fail
       refine NP_mk ?_
       exact cut_meet (by simp [forget]) ⟨gz, ka, kc, rfl, rfl, HK.out, HKF.out, HKV.out, HC.out⟩
      ·skip
       simp only [nthOp]
       go_wp2_with fail
       have hal := (Below.refl wt2.heap.size wt2).alloc (Nat.le_refl _) (.cells #[.slice none 0 0] 48)
       have HXA := Lib.hid (HXA.out.keep hal)
       have HXB := Lib.hid (HXB.out.keep hal)
       have HZ := Lib.hid (show (wt2.alloc (.cells #[.slice none 0 0] 48)).cell? ⟨wt2.heap.size, 0, none⟩ = some (.slice none ([] : List Cell).length 0) ∧ (wt2.alloc (.cells #[.slice none 0 0] 48)).frozen? ⟨wt2.heap.size, 0, none⟩ = false from ⟨by simp [go_sem], by simp [go_sem]⟩)
       have HGZ := Lib.hid HC.out.size
       have HC := Lib.hid (HC.out.alloc HC.out.size (.cells #[.slice none 0 0] 48))
       refine One_mk (KW.mk' HC.out) ?_
       clear hal
       generalize (wt2.alloc (.cells #[.slice none 0 0] 48)) = wt6 at *
       generalize wt2.heap.size = gz at *
       refine wpTree_one ?_
       simp only [nthOp]
       have HQ := Lib.hid (HCF.out wt6 ua un va vn HXA.out HXB.out)
       go_wp2_with (go_at_call 46; refine HQ.out.mono ?_; rintro e wt7 ⟨ka, kc, rfl, hkv, hb⟩; have HXA := Lib.hid (HXA.out.keep hb); have HXB := Lib.hid (HXB.out.keep hb); have HZ := Lib.hid (And.intro (cell_keep hb HZ.out.1) (frozen_keep hb (block_lt_of_cell HZ.out.1) HZ.out.2)); have HKV := Lib.hid hkv; have HC := Lib.hid (HC.out.trans (hb.mono HC.out.size)); clear hkv hb)
       refine One_mk (KW.mk' HC.out) ?_
       clear HQ
       (refine wpTree_take ?_; simp only [nthOp]; (first | go_big_quiet_step (fail) | quiet_step (fail)); refine wpQuiet_nil ?_)
       (refine wpTree_take ?_; simp only [nthOp]; (first | go_big_quiet_step (fail) | quiet_step (fail)); refine wpQuiet_nil ?_)
       (refine wpTree_take ?_; simp only [nthOp]; (first | go_big_quiet_step (fail) | quiet_step (fail)); refine wpQuiet_nil ?_)
       refine wpTree_one ?_
       simp only [nthOp]
       obtain ⟨z0, zf0⟩ := HZ.out
       have z0' := z0
       simp only [List.length_nil] at z0'
       go_wp2_with fail
       have HK := Lib.hid (got1 z0 (.slice ka V.length kc))
       have HKF := Lib.hid (show (wt7.setCell ⟨gz, 0, none⟩ (.slice ka V.length kc)).frozen? ⟨gz, 0, none⟩ = false by rw [frozen_set]; exact zf0)
       have HKV := Lib.hid (cells_set HKV.out HNE.out z0 (fun hn => absurd rfl hn) (.slice ka V.length kc))
       have HC := Lib.hid (HC.out.setCell (p := ⟨gz, 0, none⟩) HGZ.out (.slice ka V.length kc))
       clear z0 z0' zf0
       refine One_mk (KW.mk' HC.out) ?_
       generalize (wt7.setCell ⟨gz, 0, none⟩ (.slice ka V.length kc)) = wt8 at *
       refine wpTree_done ?_
       simp only [List.drop_succ_cons, List.drop_zero]
       go_wp2_with fail
       refine NP_mk ?_
       exact cut_meet (by simp [forget]) ⟨gz, ka, kc, rfl, rfl, HK.out, HKF.out, HKV.out, HC.out⟩
     ·skip
      simp only [nthOp]
      go_wp2_with fail
      have hal := (Below.refl wt1.heap.size wt1).alloc (Nat.le_refl _) (.cells #[.slice none 0 0] 48)
      have HXA := Lib.hid (HXA.out.keep hal)
      have HZ := Lib.hid (show (wt1.alloc (.cells #[.slice none 0 0] 48)).cell? ⟨wt1.heap.size, 0, none⟩ = some (.slice none ([] : List Cell).length 0) ∧ (wt1.alloc (.cells #[.slice none 0 0] 48)).frozen? ⟨wt1.heap.size, 0, none⟩ = false from ⟨by simp [go_sem], by simp [go_sem]⟩)
      have HGZ := Lib.hid HC.out.size
      have HC := Lib.hid (HC.out.alloc HC.out.size (.cells #[.slice none 0 0] 48))
      refine One_mk (KW.mk' HC.out) ?_
      clear hal
      generalize (wt1.alloc (.cells #[.slice none 0 0] 48)) = wt9 at *
      generalize wt1.heap.size = gz at *
      refine wpTree_one ?_
      simp only [nthOp]
      go_wp2_with (go_at_call 34; refine (HC3.out _ (HB5.out.trans (HC.out.mono HB5.out.size))).mono ?_; rintro e wt10 ⟨va, vn, rfl, hcv, -, hb⟩; have HXA := Lib.hid (HXA.out.keep hb); have HZ := Lib.hid (And.intro (cell_keep hb HZ.out.1) (frozen_keep hb (block_lt_of_cell HZ.out.1) HZ.out.2)); have HXB := Lib.hid hcv; have HC := Lib.hid (HC.out.trans (hb.mono HC.out.size)); clear hcv hb)
      refine One_mk (KW.mk' HC.out) ?_
      refine wpTree_one ?_
      simp only [nthOp]
      have HQ := Lib.hid (HCF.out wt10 ua un va vn HXA.out HXB.out)
      go_wp2_with (go_at_call 46; refine HQ.out.mono ?_; rintro e wt11 ⟨ka, kc, rfl, hkv, hb⟩; have HXA := Lib.hid (HXA.out.keep hb); have HXB := Lib.hid (HXB.out.keep hb); have HZ := Lib.hid (And.intro (cell_keep hb HZ.out.1) (frozen_keep hb (block_lt_of_cell HZ.out.1) HZ.out.2)); have HKV := Lib.hid hkv; have HC := Lib.hid (HC.out.trans (hb.mono HC.out.size)); clear hkv hb)
      refine One_mk (KW.mk' HC.out) ?_
      clear HQ
      (refine wpTree_take ?_; simp only [nthOp]; (first | go_big_quiet_step (fail) | quiet_step (fail)); refine wpQuiet_nil ?_)
      (refine wpTree_take ?_; simp only [nthOp]; (first | go_big_quiet_step (fail) | quiet_step (fail)); refine wpQuiet_nil ?_)
      (refine wpTree_take ?_; simp only [nthOp]; (first | go_big_quiet_step (fail) | quiet_step (fail)); refine wpQuiet_nil ?_)
      refine wpTree_one ?_
      simp only [nthOp]
      obtain ⟨z0, zf0⟩ := HZ.out
      have z0' := z0
      simp only [List.length_nil] at z0'
      go_wp2_with fail
      have HK := Lib.hid (got1 z0 (.slice ka V.length kc))
      have HKF := Lib.hid (show (wt11.setCell ⟨gz, 0, none⟩ (.slice ka V.length kc)).frozen? ⟨gz, 0, none⟩ = false by rw [frozen_set]; exact zf0)
      have HKV := Lib.hid (cells_set HKV.out HNE.out z0 (fun hn => absurd rfl hn) (.slice ka V.length kc))
      have HC := Lib.hid (HC.out.setCell (p := ⟨gz, 0, none⟩) HGZ.out (.slice ka V.length kc))
      clear z0 z0' zf0
      refine One_mk (KW.mk' HC.out) ?_
      generalize (wt11.setCell ⟨gz, 0, none⟩ (.slice ka V.length kc)) = wt12 at *
      refine wpTree_done ?_
      simp only [List.drop_succ_cons, List.drop_zero]
      go_wp2_with fail
      refine NP_mk ?_
      exact cut_meet (by simp [forget]) ⟨gz, ka, kc, rfl, rfl, HK.out, HKF.out, HKV.out, HC.out⟩
    ·skip
     simp only [nthOp]
     go_wp2_with fail
     have hal := (Below.refl wz.heap.size wz).alloc (Nat.le_refl _) (.cells #[.slice none 0 0] 48)
     have HZ := Lib.hid (show (wz.alloc (.cells #[.slice none 0 0] 48)).cell? ⟨wz.heap.size, 0, none⟩ = some (.slice none ([] : List Cell).length 0) ∧ (wz.alloc (.cells #[.slice none 0 0] 48)).frozen? ⟨wz.heap.size, 0, none⟩ = false from ⟨by simp [go_sem], by simp [go_sem]⟩)
     have HGZ := Lib.hid HC.out.size
     have HC := Lib.hid (HC.out.alloc HC.out.size (.cells #[.slice none 0 0] 48))
     refine One_mk (KW.mk' HC.out) ?_
     clear hal
     generalize (wz.alloc (.cells #[.slice none 0 0] 48)) = wt13 at *
     generalize wz.heap.size = gz at *
     refine wpTree_one ?_
     simp only [nthOp]
     go_wp2_with (go_at_call 34; refine (HC1.out _ (HB5.out.trans (HC.out.mono HB5.out.size))).mono ?_; rintro e wt14 ⟨ua, un, rfl, hcv, -, hb⟩; have HZ := Lib.hid (And.intro (cell_keep hb HZ.out.1) (frozen_keep hb (block_lt_of_cell HZ.out.1) HZ.out.2)); have HXA := Lib.hid hcv; have HC := Lib.hid (HC.out.trans (hb.mono HC.out.size)); clear hcv hb)
     refine One_mk (KW.mk' HC.out) ?_
     refine wpTree_one ?_
     simp only [nthOp]
     go_wp2_with (go_at_call 34; refine (HC3.out _ (HB5.out.trans (HC.out.mono HB5.out.size))).mono ?_; rintro e wt15 ⟨va, vn, rfl, hcv, -, hb⟩; have HXA := Lib.hid (HXA.out.keep hb); have HZ := Lib.hid (And.intro (cell_keep hb HZ.out.1) (frozen_keep hb (block_lt_of_cell HZ.out.1) HZ.out.2)); have HXB := Lib.hid hcv; have HC := Lib.hid (HC.out.trans (hb.mono HC.out.size)); clear hcv hb)
     refine One_mk (KW.mk' HC.out) ?_
     refine wpTree_one ?_
     simp only [nthOp]
     have HQ := Lib.hid (HCF.out wt15 ua un va vn HXA.out HXB.out)
     go_wp2_with (go_at_call 46; refine HQ.out.mono ?_; rintro e wt16 ⟨ka, kc, rfl, hkv, hb⟩; have HXA := Lib.hid (HXA.out.keep hb); have HXB := Lib.hid (HXB.out.keep hb); have HZ := Lib.hid (And.intro (cell_keep hb HZ.out.1) (frozen_keep hb (block_lt_of_cell HZ.out.1) HZ.out.2)); have HKV := Lib.hid hkv; have HC := Lib.hid (HC.out.trans (hb.mono HC.out.size)); clear hkv hb)
     refine One_mk (KW.mk' HC.out) ?_
     clear HQ
     (refine wpTree_take ?_; simp only [nthOp]; (first | go_big_quiet_step (fail) | quiet_step (fail)); refine wpQuiet_nil ?_)
     (refine wpTree_take ?_; simp only [nthOp]; (first | go_big_quiet_step (fail) | quiet_step (fail)); refine wpQuiet_nil ?_)
     (refine wpTree_take ?_; simp only [nthOp]; (first | go_big_quiet_step (fail) | quiet_step (fail)); refine wpQuiet_nil ?_)
     refine wpTree_one ?_
     simp only [nthOp]
     obtain ⟨z0, zf0⟩ := HZ.out
     have z0' := z0
     simp only [List.length_nil] at z0'
     go_wp2_with fail
     have HK := Lib.hid (got1 z0 (.slice ka V.length kc))
     have HKF := Lib.hid (show (wt16.setCell ⟨gz, 0, none⟩ (.slice ka V.length kc)).frozen? ⟨gz, 0, none⟩ = false by rw [frozen_set]; exact zf0)
     have HKV := Lib.hid (cells_set HKV.out HNE.out z0 (fun hn => absurd rfl hn) (.slice ka V.length kc))
     have HC := Lib.hid (HC.out.setCell (p := ⟨gz, 0, none⟩) HGZ.out (.slice ka V.length kc))
     clear z0 z0' zf0
     refine One_mk (KW.mk' HC.out) ?_
     generalize (wt16.setCell ⟨gz, 0, none⟩ (.slice ka V.length kc)) = wt17 at *
     refine wpTree_done ?_
     simp only [List.drop_succ_cons, List.drop_zero]
     go_wp2_with fail
     refine NP_mk ?_
     exact cut_meet (by simp [forget]) ⟨gz, ka, kc, rfl, rfl, HK.out, HKF.out, HKV.out, HC.out⟩
   rintro u W6 ⟨g5, ma, mc, hu1, hu2, m0, mf0, hmv, hb⟩
   subst hVV hEE
   simp only [forget, List.foldl_cons, List.foldl_nil, hu1, hu2, List.setIfInBounds_toArray, List.set_cons_succ, List.set_cons_zero]
   (have a0 := cell_keep hb a0; have b0 := cell_keep hb b0)
   have HMV := Lib.hid hmv
   have HB6 := Lib.hid (HB5.out.trans (hb.mono HB5.out.size))
   clear hb hu1 hu2 hmv mf0 HB5 HB3 HCF HCM
   go_upto_region 6 with fail
   have HCF := HCJ
   have HB5 := HB6
   obtain ⟨W5, hW5⟩ : ∃ W5, W5 = W6 := ⟨_, rfl⟩
   subst hW5
   obtain ⟨V, hVV⟩ : ∃ V, V = joinV A B := ⟨_, rfl⟩
   obtain ⟨EE0, hEE⟩ : ∃ E, E = joinE A B := ⟨_, rfl⟩
   rw [← hVV, ← hEE] at HCF
   refine wp_cut_slots [33, 34, 35, 36, 37, 32, 38, 39, 7, 8] (M2Cut 7 8 W5 V EE0) ?_ ?_
   ·have HNE := Lib.hid (show ∀ x ∈ V, x.planes ≠ [] by rw [hVV]; exact HNE6.out)
    clear hVV hEE
    have kx0 : ∀ y : KW (fun W' => Below W5.heap.size W5 W'), (y.w.cell? ⟨gw, 0, none⟩ = some (.slice aa A.length ac) ∧ y.w.cell? ⟨gw + 1, 0, none⟩ = some (.slice ba B.length bc)) := fun y => ⟨cell_keep y.ok a0, cell_keep y.ok b0⟩
    haveI n1 : Nonempty (KW (fun W' => Below W5.heap.size W5 W')) := ⟨⟨W5, Below.refl _ _⟩⟩
    refine wp_region_tree (fun w' => ∃ y : KW (fun W' => Below W5.heap.size W5 W'), w' = y.w) 10 (.take 0 (.take 2 (.two 1 (.two 3 (.two 4 (.take 5 (.take 6 (.take 7 (.one 8 (.one 9 .done))))) 8 (.one 4 (.take 5 (.take 6 (.take 7 (.one 9 .done)))))) 8 (.one 3 (.one 4 (.take 5 (.take 6 (.take 7 (.one 9 .done))))))) 8 (.one 1 (.one 3 (.one 4 (.take 5 (.take 6 (.take 7 (.one 9 .done)))))))))) hmix (by kernel_rfl) (KW.mk' (Below.refl _ _).drew) ?_
    have HC := Lib.hid (show Below W5.heap.size W5 W5.drew from (Below.refl _ _).drew)
    generalize W5.drew = wz at *
    (refine wpTree_take ?_; simp only [nthOp]; (first | go_big_quiet_step (fail) | quiet_step (fail)); refine wpQuiet_nil ?_)
    (refine wpTree_take ?_; simp only [nthOp]; (first | go_big_quiet_step (fail) | quiet_step (fail)); refine wpQuiet_nil ?_)
    refine wpTree_two ?_ ?_
    ·skip
     simp only [nthOp]
     go_wp2_with (go_at_call 34; refine (HC1.out _ (HB5.out.trans (HC.out.mono HB5.out.size))).mono ?_; rintro e wt1 ⟨ua, un, rfl, hcv, -, hb⟩; have HXA := Lib.hid hcv; have HC := Lib.hid (HC.out.trans (hb.mono HC.out.size)); clear hcv hb)
     refine One_mk (KW.mk' HC.out) ?_
     refine wpTree_two ?_ ?_
     ·skip
      simp only [nthOp]
      go_wp2_with (go_at_call 34; refine (HC3.out _ (HB5.out.trans (HC.out.mono HB5.out.size))).mono ?_; rintro e wt2 ⟨va, vn, rfl, hcv, -, hb⟩; have HXA := Lib.hid (HXA.out.keep hb); have HXB := Lib.hid hcv; have HC := Lib.hid (HC.out.trans (hb.mono HC.out.size)); clear hcv hb)
      refine One_mk (KW.mk' HC.out) ?_
      refine wpTree_two ?_ ?_
      ·skip
       simp only [nthOp]
       have HQ := Lib.hid (HCF.out wt2 ua un va vn HXA.out HXB.out)
       go_wp2_with (go_at_call 61; refine HQ.out.mono ?_; rintro e wt3 ⟨ka, kc, rfl, hkv, hb⟩; have HXA := Lib.hid (HXA.out.keep hb); have HXB := Lib.hid (HXB.out.keep hb); have HKV := Lib.hid hkv; have HC := Lib.hid (HC.out.trans (hb.mono HC.out.size)); clear hkv hb)
       refine One_mk (KW.mk' HC.out) ?_
       clear HQ
       (refine wpTree_take ?_; simp only [nthOp]; (first | go_big_quiet_step (fail) | quiet_step (fail)); refine wpQuiet_nil ?_)
       (refine wpTree_take ?_; simp only [nthOp]; (first | go_big_quiet_step (fail) | quiet_step (fail)); refine wpQuiet_nil ?_)
       (refine wpTree_take ?_; simp only [nthOp]; (first | go_big_quiet_step (fail) | quiet_step (fail)); refine wpQuiet_nil ?_)
       refine wpTree_one ?_
       simp only [nthOp]
       go_wp2_with fail
       have hal := (Below.refl wt3.heap.size wt3).alloc (Nat.le_refl _) (.cells #[.slice none 0 0] 48)
       have HXA := Lib.hid (HXA.out.keep hal)
       have HXB := Lib.hid (HXB.out.keep hal)
       have HKV := Lib.hid (HKV.out.keep hal)
       have HZ := Lib.hid (show (wt3.alloc (.cells #[.slice none 0 0] 48)).cell? ⟨wt3.heap.size, 0, none⟩ = some (.slice none ([] : List Cell).length 0) ∧ (wt3.alloc (.cells #[.slice none 0 0] 48)).frozen? ⟨wt3.heap.size, 0, none⟩ = false from ⟨by simp [go_sem], by simp [go_sem]⟩)
       have HGZ := Lib.hid HC.out.size
       have HC := Lib.hid (HC.out.alloc HC.out.size (.cells #[.slice none 0 0] 48))
       refine One_mk (KW.mk' HC.out) ?_
       clear hal
       generalize (wt3.alloc (.cells #[.slice none 0 0] 48)) = wt4 at *
       generalize wt3.heap.size = gz at *
       refine wpTree_one ?_
       simp only [nthOp]
       obtain ⟨z0, zf0⟩ := HZ.out
       have z0' := z0
       simp only [List.length_nil] at z0'
       go_wp2_with fail
       have HK := Lib.hid (got1 z0 (.slice ka V.length kc))
       have HKF := Lib.hid (show (wt4.setCell ⟨gz, 0, none⟩ (.slice ka V.length kc)).frozen? ⟨gz, 0, none⟩ = false by rw [frozen_set]; exact zf0)
       have HKV := Lib.hid (cells_set HKV.out HNE.out z0 (fun hn => absurd rfl hn) (.slice ka V.length kc))
       have HC := Lib.hid (HC.out.setCell (p := ⟨gz, 0, none⟩) HGZ.out (.slice ka V.length kc))
       clear z0 z0' zf0
       refine One_mk (KW.mk' HC.out) ?_
       generalize (wt4.setCell ⟨gz, 0, none⟩ (.slice ka V.length kc)) = wt5 at *
       refine wpTree_done ?_
       simp only [List.drop_succ_cons, List.drop_zero]
       go_wp2_with fail
       refine NP_mk ?_
       exact cut_meet (by simp [forget]) ⟨gz, ka, kc, rfl, rfl, HK.out, HKF.out, HKV.out, HC.out⟩
      ·skip
       simp only [nthOp]
       go_wp2_with fail
       have hal := (Below.refl wt2.heap.size wt2).alloc (Nat.le_refl _) (.cells #[.slice none 0 0] 48)
       have HXA := Lib.hid (HXA.out.keep hal)
       have HXB := Lib.hid (HXB.out.keep hal)
       have HZ := Lib.hid (show (wt2.alloc (.cells #[.slice none 0 0] 48)).cell? ⟨wt2.heap.size, 0, none⟩ = some (.slice none ([] : List Cell).length 0) ∧ (wt2.alloc (.cells #[.slice none 0 0] 48)).frozen? ⟨wt2.heap.size, 0, none⟩ = false from ⟨by simp [go_sem], by simp [go_sem]⟩)
       have HGZ := Lib.hid HC.out.size
       have HC := Lib.hid (HC.out.alloc HC.out.size (.cells #[.slice none 0 0] 48))
       refine One_mk (KW.mk' HC.out) ?_
       clear hal
       generalize (wt2.alloc (.cells #[.slice none 0 0] 48)) = wt6 at *
       generalize wt2.heap.size = gz at *
       refine wpTree_one ?_
       simp only [nthOp]
       have HQ := Lib.hid (HCF.out wt6 ua un va vn HXA.out HXB.out)
       go_wp2_with (go_at_call 61; refine HQ.out.mono ?_; rintro e wt7 ⟨ka, kc, rfl, hkv, hb⟩; have HXA := Lib.hid (HXA.out.keep hb); have HXB := Lib.hid (HXB.out.keep hb); have HZ := Lib.hid (And.intro (cell_keep hb HZ.out.1) (frozen_keep hb (block_lt_of_cell HZ.out.1) HZ.out.2)); have HKV := Lib.hid hkv; have HC := Lib.hid (HC.out.trans (hb.mono HC.out.size)); clear hkv hb)
       refine One_mk (KW.mk' HC.out) ?_
       clear HQ
       (refine wpTree_take ?_; simp only [nthOp]; (first | go_big_quiet_step (fail) | quiet_step (fail)); refine wpQuiet_nil ?_)
       (refine wpTree_take ?_; simp only [nthOp]; (first | go_big_quiet_step (fail) | quiet_step (fail)); refine wpQuiet_nil ?_)
       (refine wpTree_take ?_; simp only [nthOp]; (first | go_big_quiet_step (fail) | quiet_step (fail)); refine wpQuiet_nil ?_)
       refine wpTree_one ?_
       simp only [nthOp]
       obtain ⟨z0, zf0⟩ := HZ.out
       have z0' := z0
       simp only [List.length_nil] at z0'
       go_wp2_with fail
       have HK := Lib.hid (got1 z0 (.slice ka V.length kc))
       have HKF := Lib.hid (show (wt7.setCell ⟨gz, 0, none⟩ (.slice ka V.length kc)).frozen? ⟨gz, 0, none⟩ = false by rw [frozen_set]; exact zf0)
       have HKV := Lib.hid (cells_set HKV.out HNE.out z0 (fun hn => absurd rfl hn) (.slice ka V.length kc))
       have HC := Lib.hid (HC.out.setCell (p := ⟨gz, 0, none⟩) HGZ.out (.slice ka V.length kc))
       clear z0 z0' zf0
       refine One_mk (KW.mk' HC.out) ?_
       generalize (wt7.setCell ⟨gz, 0, none⟩ (.slice ka V.length kc)) = wt8 at *
       refine wpTree_done ?_
       simp only [List.drop_succ_cons, List.drop_zero]
       go_wp2_with fail
       refine NP_mk ?_
       exact cut_meet (by simp [forget]) ⟨gz, ka, kc, rfl, rfl, HK.out, HKF.out, HKV.out, HC.out⟩
     ·skip
      simp only [nthOp]
      go_wp2_with fail
      have hal := (Below.refl wt1.heap.size wt1).alloc (Nat.le_refl _) (.cells #[.slice none 0 0] 48)
      have HXA := Lib.hid (HXA.out.keep hal)
      have HZ := Lib.hid (show (wt1.alloc (.cells #[.slice none 0 0] 48)).cell? ⟨wt1.heap.size, 0, none⟩ = some (.slice none ([] : List Cell).length 0) ∧ (wt1.alloc (.cells #[.slice none 0 0] 48)).frozen? ⟨wt1.heap.size, 0, none⟩ = false from ⟨by simp [go_sem], by simp [go_sem]⟩)
      have HGZ := Lib.hid HC.out.size
      have HC := Lib.hid (HC.out.alloc HC.out.size (.cells #[.slice none 0 0] 48))
      refine One_mk (KW.mk' HC.out) ?_
      clear hal
      generalize (wt1.alloc (.cells #[.slice none 0 0] 48)) = wt9 at *
      generalize wt1.heap.size = gz at *
      refine wpTree_one ?_
      simp only [nthOp]
      go_wp2_with (go_at_call 34; refine (HC3.out _ (HB5.out.trans (HC.out.mono HB5.out.size))).mono ?_; rintro e wt10 ⟨va, vn, rfl, hcv, -, hb⟩; have HXA := Lib.hid (HXA.out.keep hb); have HZ := Lib.hid (And.intro (cell_keep hb HZ.out.1) (frozen_keep hb (block_lt_of_cell HZ.out.1) HZ.out.2)); have HXB := Lib.hid hcv; have HC := Lib.hid (HC.out.trans (hb.mono HC.out.size)); clear hcv hb)
      refine One_mk (KW.mk' HC.out) ?_
      refine wpTree_one ?_
      simp only [nthOp]
      have HQ := Lib.hid (HCF.out wt10 ua un va vn HXA.out HXB.out)
      go_wp2_with (go_at_call 61; refine HQ.out.mono ?_; rintro e wt11 ⟨ka, kc, rfl, hkv, hb⟩; have HXA := Lib.hid (HXA.out.keep hb); have HXB := Lib.hid (HXB.out.keep hb); have HZ := Lib.hid (And.intro (cell_keep hb HZ.out.1) (frozen_keep hb (block_lt_of_cell HZ.out.1) HZ.out.2)); have HKV := Lib.hid hkv; have HC := Lib.hid (HC.out.trans (hb.mono HC.out.size)); clear hkv hb)
      refine One_mk (KW.mk' HC.out) ?_
      clear HQ
      (refine wpTree_take ?_; simp only [nthOp]; (first | go_big_quiet_step (fail) | quiet_step (fail)); refine wpQuiet_nil ?_)
      (refine wpTree_take ?_; simp only [nthOp]; (first | go_big_quiet_step (fail) | quiet_step (fail)); refine wpQuiet_nil ?_)
      (refine wpTree_take ?_; simp only [nthOp]; (first | go_big_quiet_step (fail) | quiet_step (fail)); refine wpQuiet_nil ?_)
      refine wpTree_one ?_
      simp only [nthOp]
      obtain ⟨z0, zf0⟩ := HZ.out
      have z0' := z0
      simp only [List.length_nil] at z0'
      go_wp2_with fail
      have HK := Lib.hid (got1 z0 (.slice ka V.length kc))
      have HKF := Lib.hid (show (wt11.setCell ⟨gz, 0, none⟩ (.slice ka V.length kc)).frozen? ⟨gz, 0, none⟩ = false by rw [frozen_set]; exact zf0)
      have HKV := Lib.hid (cells_set HKV.out HNE.out z0 (fun hn => absurd rfl hn) (.slice ka V.length kc))
      have HC := Lib.hid (HC.out.setCell (p := ⟨gz, 0, none⟩) HGZ.out (.slice ka V.length kc))
      clear z0 z0' zf0
      refine One_mk (KW.mk' HC.out) ?_
      generalize (wt11.setCell ⟨gz, 0, none⟩ (.slice ka V.length kc)) = wt12 at *
      refine wpTree_done ?_
      simp only [List.drop_succ_cons, List.drop_zero]
      go_wp2_with fail
      refine NP_mk ?_
      exact cut_meet (by simp [forget]) ⟨gz, ka, kc, rfl, rfl, HK.out, HKF.out, HKV.out, HC.out⟩
    ·skip
     simp only [nthOp]
     go_wp2_with fail
     have hal := (Below.refl wz.heap.size wz).alloc (Nat.le_refl _) (.cells #[.slice none 0 0] 48)
     have HZ := Lib.hid (show (wz.alloc (.cells #[.slice none 0 0] 48)).cell? ⟨wz.heap.size, 0, none⟩ = some (.slice none ([] : List Cell).length 0) ∧ (wz.alloc (.cells #[.slice none 0 0] 48)).frozen? ⟨wz.heap.size, 0, none⟩ = false from ⟨by simp [go_sem], by simp [go_sem]⟩)
     have HGZ := Lib.hid HC.out.size
     have HC := Lib.hid (HC.out.alloc HC.out.size (.cells #[.slice none 0 0] 48))
     refine One_mk (KW.mk' HC.out) ?_
     clear hal
     generalize (wz.alloc (.cells #[.slice none 0 0] 48)) = wt13 at *
     generalize wz.heap.size = gz at *
     refine wpTree_one ?_
     simp only [nthOp]
     go_wp2_with (go_at_call 34; refine (HC1.out _ (HB5.out.trans (HC.out.mono HB5.out.size))).mono ?_; rintro e wt14 ⟨ua, un, rfl, hcv, -, hb⟩; have HZ := Lib.hid (And.intro (cell_keep hb HZ.out.1) (frozen_keep hb (block_lt_of_cell HZ.out.1) HZ.out.2)); have HXA := Lib.hid hcv; have HC := Lib.hid (HC.out.trans (hb.mono HC.out.size)); clear hcv hb)
     refine One_mk (KW.mk' HC.out) ?_
     refine wpTree_one ?_
     simp only [nthOp]
     go_wp2_with (go_at_call 34; refine (HC3.out _ (HB5.out.trans (HC.out.mono HB5.out.size))).mono ?_; rintro e wt15 ⟨va, vn, rfl, hcv, -, hb⟩; have HXA := Lib.hid (HXA.out.keep hb); have HZ := Lib.hid (And.intro (cell_keep hb HZ.out.1) (frozen_keep hb (block_lt_of_cell HZ.out.1) HZ.out.2)); have HXB := Lib.hid hcv; have HC := Lib.hid (HC.out.trans (hb.mono HC.out.size)); clear hcv hb)
     refine One_mk (KW.mk' HC.out) ?_
     refine wpTree_one ?_
     simp only [nthOp]
     have HQ := Lib.hid (HCF.out wt15 ua un va vn HXA.out HXB.out)
     go_wp2_with (go_at_call 61; refine HQ.out.mono ?_; rintro e wt16 ⟨ka, kc, rfl, hkv, hb⟩; have HXA := Lib.hid (HXA.out.keep hb); have HXB := Lib.hid (HXB.out.keep hb); have HZ := Lib.hid (And.intro (cell_keep hb HZ.out.1) (frozen_keep hb (block_lt_of_cell HZ.out.1) HZ.out.2)); have HKV := Lib.hid hkv; have HC := Lib.hid (HC.out.trans (hb.mono HC.out.size)); clear hkv hb)
     refine One_mk (KW.mk' HC.out) ?_
     clear HQ
     (refine wpTree_take ?_; simp only [nthOp]; (first | go_big_quiet_step (fail) | quiet_step (fail)); refine wpQuiet_nil ?_)
     (refine wpTree_take ?_; simp only [nthOp]; (first | go_big_quiet_step (fail) | quiet_step (fail)); refine wpQuiet_nil ?_)
     (refine wpTree_take ?_; simp only [nthOp]; (first | go_big_quiet_step (fail) | quiet_step (fail)); refine wpQuiet_nil ?_)
     refine wpTree_one ?_
     simp only [nthOp]
     obtain ⟨z0, zf0⟩ := HZ.out
     have z0' := z0
     simp only [List.length_nil] at z0'
     go_wp2_with fail
     have HK := Lib.hid (got1 z0 (.slice ka V.length kc))
     have HKF := Lib.hid (show (wt16.setCell ⟨gz, 0, none⟩ (.slice ka V.length kc)).frozen? ⟨gz, 0, none⟩ = false by rw [frozen_set]; exact zf0)
     have HKV := Lib.hid (cells_set HKV.out HNE.out z0 (fun hn => absurd rfl hn) (.slice ka V.length kc))
     have HC := Lib.hid (HC.out.setCell (p := ⟨gz, 0, none⟩) HGZ.out (.slice ka V.length kc))
     clear z0 z0' zf0
     refine One_mk (KW.mk' HC.out) ?_
     generalize (wt16.setCell ⟨gz, 0, none⟩ (.slice ka V.length kc)) = wt17 at *
     refine wpTree_done ?_
     simp only [List.drop_succ_cons, List.drop_zero]
     go_wp2_with fail
     refine NP_mk ?_
     exact cut_meet (by simp [forget]) ⟨gz, ka, kc, rfl, rfl, HK.out, HKF.out, HKV.out, HC.out⟩
   rintro u W7 ⟨g7, ja, jc, hu1, hu2, j0, jf0, hjv, hb⟩
   subst hVV hEE
   simp only [forget, List.foldl_cons, List.foldl_nil, hu1, hu2, List.setIfInBounds_toArray, List.set_cons_succ, List.set_cons_zero]
   (have a0 := cell_keep hb a0; have b0 := cell_keep hb b0)
   (have m0 := cell_keep hb m0; have HMV := Lib.hid (HMV.out.keep hb))
   have HJV := Lib.hid hjv
   have HB7 := Lib.hid (HB5.out.trans (hb.mono HB5.out.size))
   clear hb hu1 hu2 hjv jf0 HB5 HB6 HCF HCJ
   go_upto_region 7 with fail
   have HCF := HCL
   have HB5 := HB7
   obtain ⟨W5, hW5⟩ : ∃ W5, W5 = W7 := ⟨_, rfl⟩
   subst hW5
   obtain ⟨V, hVV⟩ : ∃ V, V = (leftV A B).map Cell.mk := ⟨_, rfl⟩
   obtain ⟨EE0, hEE⟩ : ∃ E, E = minE A B := ⟨_, rfl⟩
   rw [← hVV, ← hEE] at HCF
   refine wp_cut_slots [41, 42, 43, 44, 45, 40, 46, 47, 9, 10] (M2Cut 9 10 W5 V EE0) ?_ ?_
   ·have HNE := Lib.hid (show ∀ x ∈ V, x.planes ≠ [] by rw [hVV]; exact HNE7.out)
    clear hVV hEE
    have kx0 : ∀ y : KW (fun W' => Below W5.heap.size W5 W'), (y.w.cell? ⟨gw, 0, none⟩ = some (.slice aa A.length ac) ∧ y.w.cell? ⟨gw + 1, 0, none⟩ = some (.slice ba B.length bc)) := fun y => ⟨cell_keep y.ok a0, cell_keep y.ok b0⟩
    haveI n1 : Nonempty (KW (fun W' => Below W5.heap.size W5 W')) := ⟨⟨W5, Below.refl _ _⟩⟩
    refine wp_region_tree (fun w' => ∃ y : KW (fun W' => Below W5.heap.size W5 W'), w' = y.w) 10 (.take 0 (.take 2 (.two 1 (.two 3 (.two 4 (.take 5 (.take 6 (.take 7 (.one 8 (.one 9 .done))))) 8 (.one 4 (.take 5 (.take 6 (.take 7 (.one 9 .done)))))) 8 (.one 3 (.one 4 (.take 5 (.take 6 (.take 7 (.one 9 .done))))))) 8 (.one 1 (.one 3 (.one 4 (.take 5 (.take 6 (.take 7 (.one 9 .done)))))))))) hmix (by kernel_rfl) (KW.mk' (Below.refl _ _).drew) ?_
    have HC := Lib.hid (show Below W5.heap.size W5 W5.drew from (Below.refl _ _).drew)
    generalize W5.drew = wz at *
    (refine wpTree_take ?_; simp only [nthOp]; (first | go_big_quiet_step (fail) | quiet_step (fail)); refine wpQuiet_nil ?_)
    (refine wpTree_take ?_; simp only [nthOp]; (first | go_big_quiet_step (fail) | quiet_step (fail)); refine wpQuiet_nil ?_)
    refine wpTree_two ?_ ?_
    ·skip
     simp only [nthOp]
     go_wp2_with (go_at_call 34; refine (HC1.out _ (HB5.out.trans (HC.out.mono HB5.out.size))).mono ?_; rintro e wt1 ⟨ua, un, rfl, hcv, -, hb⟩; have HXA := Lib.hid hcv; have HC := Lib.hid (HC.out.trans (hb.mono HC.out.size)); clear hcv hb)
     refine One_mk (KW.mk' HC.out) ?_
     refine wpTree_two ?_ ?_
     ·skip
      simp only [nthOp]
      go_wp2_with (go_at_call 34; refine (HC3.out _ (HB5.out.trans (HC.out.mono HB5.out.size))).mono ?_; rintro e wt2 ⟨va, vn, rfl, hcv, -, hb⟩; have HXA := Lib.hid (HXA.out.keep hb); have HXB := Lib.hid hcv; have HC := Lib.hid (HC.out.trans (hb.mono HC.out.size)); clear hcv hb)
      refine One_mk (KW.mk' HC.out) ?_
      refine wpTree_two ?_ ?_
      ·skip
       simp only [nthOp]
       have HQ := Lib.hid (HCF.out wt2 ua un va vn HXA.out HXB.out)
       go_wp2_with (go_at_call 45; refine HQ.out.mono ?_; rintro e wt3 ⟨ka, kc, rfl, hkv, hb⟩; have HXA := Lib.hid (HXA.out.keep hb); have HXB := Lib.hid (HXB.out.keep hb); have HKV := Lib.hid hkv; have HC := Lib.hid (HC.out.trans (hb.mono HC.out.size)); clear hkv hb)
       refine One_mk (KW.mk' HC.out) ?_
       clear HQ
       (refine wpTree_take ?_; simp only [nthOp]; (first | go_big_quiet_step (fail) | quiet_step (fail)); refine wpQuiet_nil ?_)
       (refine wpTree_take ?_; simp only [nthOp]; (first | go_big_quiet_step (fail) | quiet_step (fail)); refine wpQuiet_nil ?_)
       (refine wpTree_take ?_; simp only [nthOp]; (first | go_big_quiet_step (fail) | quiet_step (fail)); refine wpQuiet_nil ?_)
       refine wpTree_one ?_
       simp only [nthOp]
       go_wp2_with fail
       have hal := (Below.refl wt3.heap.size wt3).alloc (Nat.le_refl _) (.cells #[.slice none 0 0] 48)
       have HXA := Lib.hid (HXA.out.keep hal)
       have HXB := Lib.hid (HXB.out.keep hal)
       have HKV := Lib.hid (HKV.out.keep hal)
       have HZ := Lib.hid (show (wt3.alloc (.cells #[.slice none 0 0] 48)).cell? ⟨wt3.heap.size, 0, none⟩ = some (.slice none ([] : List Cell).length 0) ∧ (wt3.alloc (.cells #[.slice none 0 0] 48)).frozen? ⟨wt3.heap.size, 0, none⟩ = false from ⟨by simp [go_sem], by simp [go_sem]⟩)
       have HGZ := Lib.hid HC.out.size
       have HC := Lib.hid (HC.out.alloc HC.out.size (.cells #[.slice none 0 0] 48))
       refine One_mk (KW.mk' HC.out) ?_
       clear hal
       generalize (wt3.alloc (.cells #[.slice none 0 0] 48)) = wt4 at *
       generalize wt3.heap.size = gz at *
       refine wpTree_one ?_
       simp only [nthOp]
       obtain ⟨z0, zf0⟩ := HZ.out
       have z0' := z0
       simp only [List.length_nil] at z0'
       go_wp2_with fail
       have HK := Lib.hid (got1 z0 (.slice ka V.length kc))
       have HKF := Lib.hid (show (wt4.setCell ⟨gz, 0, none⟩ (.slice ka V.length kc)).frozen? ⟨gz, 0, none⟩ = false by rw [frozen_set]; exact zf0)
       have HKV := Lib.hid (cells_set HKV.out HNE.out z0 (fun hn => absurd rfl hn) (.slice ka V.length kc))
       have HC := Lib.hid (HC.out.setCell (p := ⟨gz, 0, none⟩) HGZ.out (.slice ka V.length kc))
       clear z0 z0' zf0
       refine One_mk (KW.mk' HC.out) ?_
       generalize (wt4.setCell ⟨gz, 0, none⟩ (.slice ka V.length kc)) = wt5 at *
       refine wpTree_done ?_
       simp only [List.drop_succ_cons, List.drop_zero]
       go_wp2_with fail
       refine NP_mk ?_
       exact cut_meet (by simp [forget]) ⟨gz, ka, kc, rfl, rfl, HK.out, HKF.out, HKV.out, HC.out⟩
      ·skip
       simp only [nthOp]
       go_wp2_with fail
       have hal := (Below.refl wt2.heap.size wt2).alloc (Nat.le_refl _) (.cells #[.slice none 0 0] 48)
       have HXA := Lib.hid (HXA.out.keep hal)
       have HXB := Lib.hid (HXB.out.keep hal)
       have HZ := Lib.hid (show (wt2.alloc (.cells #[.slice none 0 0] 48)).cell? ⟨wt2.heap.size, 0, none⟩ = some (.slice none ([] : List Cell).length 0) ∧ (wt2.alloc (.cells #[.slice none 0 0] 48)).frozen? ⟨wt2.heap.size, 0, none⟩ = false from ⟨by simp [go_sem], by simp [go_sem]⟩)
       have HGZ := Lib.hid HC.out.size
       have HC := Lib.hid (HC.out.alloc HC.out.size (.cells #[.slice none 0 0] 48))
       refine One_mk (KW.mk' HC.out) ?_
       clear hal
       generalize (wt2.alloc (.cells #[.slice none 0 0] 48)) = wt6 at *
       generalize wt2.heap.size = gz at *
       refine wpTree_one ?_
       simp only [nthOp]
       have HQ := Lib.hid (HCF.out wt6 ua un va vn HXA.out HXB.out)
       go_wp2_with (go_at_call 45; refine HQ.out.mono ?_; rintro e wt7 ⟨ka, kc, rfl, hkv, hb⟩; have HXA := Lib.hid (HXA.out.keep hb); have HXB := Lib.hid (HXB.out.keep hb); have HZ := Lib.hid (And.intro (cell_keep hb HZ.out.1) (frozen_keep hb (block_lt_of_cell HZ.out.1) HZ.out.2)); have HKV := Lib.hid hkv; have HC := Lib.hid (HC.out.trans (hb.mono HC.out.size)); clear hkv hb)
       refine One_mk (KW.mk' HC.out) ?_
       clear HQ
       (refine wpTree_take ?_; simp only [nthOp]; (first | go_big_quiet_step (fail) | quiet_step (fail)); refine wpQuiet_nil ?_)
       (refine wpTree_take ?_; simp only [nthOp]; (first | go_big_quiet_step (fail) | quiet_step (fail)); refine wpQuiet_nil ?_)
       (refine wpTree_take ?_; simp only [nthOp]; (first | go_big_quiet_step (fail) | quiet_step (fail)); refine wpQuiet_nil ?_)
       refine wpTree_one ?_
       simp only [nthOp]
       obtain ⟨z0, zf0⟩ := HZ.out
       have z0' := z0
       simp only [List.length_nil] at z0'
       go_wp2_with fail
       have HK := Lib.hid (got1 z0 (.slice ka V.length kc))
       have HKF := Lib.hid (show (wt7.setCell ⟨gz, 0, none⟩ (.slice ka V.length kc)).frozen? ⟨gz, 0, none⟩ = false by rw [frozen_set]; exact zf0)
       have HKV := Lib.hid (cells_set HKV.out HNE.out z0 (fun hn => absurd rfl hn) (.slice ka V.length kc))
       have HC := Lib.hid (HC.out.setCell (p := ⟨gz, 0, none⟩) HGZ.out (.slice ka V.length kc))
       clear z0 z0' zf0
       refine One_mk (KW.mk' HC.out) ?_
       generalize (wt7.setCell ⟨gz, 0, none⟩ (.slice ka V.length kc)) = wt8 at *
       refine wpTree_done ?_
       simp only [List.drop_succ_cons, List.drop_zero]
       go_wp2_with fail
       refine NP_mk ?_
       exact cut_meet (by simp [forget]) ⟨gz, ka, kc, rfl, rfl, HK.out, HKF.out, HKV.out, HC.out⟩
     ·skip
      simp only [nthOp]
      go_wp2_with fail
      have hal := (Below.refl wt1.heap.size wt1).alloc (Nat.le_refl _) (.cells #[.slice none 0 0] 48)
      have HXA := Lib.hid (HXA.out.keep hal)
      have HZ := Lib.hid (show (wt1.alloc (.cells #[.slice none 0 0] 48)).cell? ⟨wt1.heap.size, 0, none⟩ = some (.slice none ([] : List Cell).length 0) ∧ (wt1.alloc (.cells #[.slice none 0 0] 48)).frozen? ⟨wt1.heap.size, 0, none⟩ = false from ⟨by simp [go_sem], by simp [go_sem]⟩)
      have HGZ := Lib.hid HC.out.size
      have HC := Lib.hid (HC.out.alloc HC.out.size (.cells #[.slice none 0 0] 48))
      refine One_mk (KW.mk' HC.out) ?_
      clear hal
      generalize (wt1.alloc (.cells #[.slice none 0 0] 48)) = wt9 at *
      generalize wt1.heap.size = gz at *
      refine wpTree_one ?_
      simp only [nthOp]
      go_wp2_with (go_at_call 34; refine (HC3.out _ (HB5.out.trans (HC.out.mono HB5.out.size))).mono ?_; rintro e wt10 ⟨va, vn, rfl, hcv, -, hb⟩; have HXA := Lib.hid (HXA.out.keep hb); have HZ := Lib.hid (And.intro (cell_keep hb HZ.out.1) (frozen_keep hb (block_lt_of_cell HZ.out.1) HZ.out.2)); have HXB := Lib.hid hcv; have HC := Lib.hid (HC.out.trans (hb.mono HC.out.size)); clear hcv hb)
      refine One_mk (KW.mk' HC.out) ?_
      refine wpTree_one ?_
      simp only [nthOp]
      have HQ := Lib.hid (HCF.out wt10 ua un va vn HXA.out HXB.out)
      go_wp2_with (go_at_call 45; refine HQ.out.mono ?_; rintro e wt11 ⟨ka, kc, rfl, hkv, hb⟩; have HXA := Lib.hid (HXA.out.keep hb); have HXB := Lib.hid (HXB.out.keep hb); have HZ := Lib.hid (And.intro (cell_keep hb HZ.out.1) (frozen_keep hb (block_lt_of_cell HZ.out.1) HZ.out.2)); have HKV := Lib.hid hkv; have HC := Lib.hid (HC.out.trans (hb.mono HC.out.size)); clear hkv hb)
      refine One_mk (KW.mk' HC.out) ?_
      clear HQ
      (refine wpTree_take ?_; simp only [nthOp]; (first | go_big_quiet_step (fail) | quiet_step (fail)); refine wpQuiet_nil ?_)
      (refine wpTree_take ?_; simp only [nthOp]; (first | go_big_quiet_step (fail) | quiet_step (fail)); refine wpQuiet_nil ?_)
      (refine wpTree_take ?_; simp only [nthOp]; (first | go_big_quiet_step (fail) | quiet_step (fail)); refine wpQuiet_nil ?_)
      refine wpTree_one ?_
      simp only [nthOp]
      obtain ⟨z0, zf0⟩ := HZ.out
      have z0' := z0
      simp only [List.length_nil] at z0'
      go_wp2_with fail
      have HK := Lib.hid (got1 z0 (.slice ka V.length kc))
      have HKF := Lib.hid (show (wt11.setCell ⟨gz, 0, none⟩ (.slice ka V.length kc)).frozen? ⟨gz, 0, none⟩ = false by rw [frozen_set]; exact zf0)
      have HKV := Lib.hid (cells_set HKV.out HNE.out z0 (fun hn => absurd rfl hn) (.slice ka V.length kc))
      have HC := Lib.hid (HC.out.setCell (p := ⟨gz, 0, none⟩) HGZ.out (.slice ka V.length kc))
      clear z0 z0' zf0
      refine One_mk (KW.mk' HC.out) ?_
      generalize (wt11.setCell ⟨gz, 0, none⟩ (.slice ka V.length kc)) = wt12 at *
      refine wpTree_done ?_
      simp only [List.drop_succ_cons, List.drop_zero]
      go_wp2_with fail
      refine NP_mk ?_
      exact cut_meet (by simp [forget]) ⟨gz, ka, kc, rfl, rfl, HK.out, HKF.out, HKV.out, HC.out⟩
    ·skip
     simp only [nthOp]
     go_wp2_with fail
     have hal := (Below.refl wz.heap.size wz).alloc (Nat.le_refl _) (.cells #[.slice none 0 0] 48)
     have HZ := Lib.hid (show (wz.alloc (.cells #[.slice none 0 0] 48)).cell? ⟨wz.heap.size, 0, none⟩ = some (.slice none ([] : List Cell).length 0) ∧ (wz.alloc (.cells #[.slice none 0 0] 48)).frozen? ⟨wz.heap.size, 0, none⟩ = false from ⟨by simp [go_sem], by simp [go_sem]⟩)
     have HGZ := Lib.hid HC.out.size
     have HC := Lib.hid (HC.out.alloc HC.out.size (.cells #[.slice none 0 0] 48))
     refine One_mk (KW.mk' HC.out) ?_
     clear hal
     generalize (wz.alloc (.cells #[.slice none 0 0] 48)) = wt13 at *
     generalize wz.heap.size = gz at *
     refine wpTree_one ?_
     simp only [nthOp]
     go_wp2_with (go_at_call 34; refine (HC1.out _ (HB5.out.trans (HC.out.mono HB5.out.size))).mono ?_; rintro e wt14 ⟨ua, un, rfl, hcv, -, hb⟩; have HZ := Lib.hid (And.intro (cell_keep hb HZ.out.1) (frozen_keep hb (block_lt_of_cell HZ.out.1) HZ.out.2)); have HXA := Lib.hid hcv; have HC := Lib.hid (HC.out.trans (hb.mono HC.out.size)); clear hcv hb)
     refine One_mk (KW.mk' HC.out) ?_
     refine wpTree_one ?_
     simp only [nthOp]
     go_wp2_with (go_at_call 34; refine (HC3.out _ (HB5.out.trans (HC.out.mono HB5.out.size))).mono ?_; rintro e wt15 ⟨va, vn, rfl, hcv, -, hb⟩; have HXA := Lib.hid (HXA.out.keep hb); have HZ := Lib.hid (And.intro (cell_keep hb HZ.out.1) (frozen_keep hb (block_lt_of_cell HZ.out.1) HZ.out.2)); have HXB := Lib.hid hcv; have HC := Lib.hid (HC.out.trans (hb.mono HC.out.size)); clear hcv hb)
     refine One_mk (KW.mk' HC.out) ?_
     refine wpTree_one ?_
     simp only [nthOp]
     have HQ := Lib.hid (HCF.out wt15 ua un va vn HXA.out HXB.out)
     go_wp2_with (go_at_call 45; refine HQ.out.mono ?_; rintro e wt16 ⟨ka, kc, rfl, hkv, hb⟩; have HXA := Lib.hid (HXA.out.keep hb); have HXB := Lib.hid (HXB.out.keep hb); have HZ := Lib.hid (And.intro (cell_keep hb HZ.out.1) (frozen_keep hb (block_lt_of_cell HZ.out.1) HZ.out.2)); have HKV := Lib.hid hkv; have HC := Lib.hid (HC.out.trans (hb.mono HC.out.size)); clear hkv hb)
     refine One_mk (KW.mk' HC.out) ?_
     clear HQ
     (refine wpTree_take ?_; simp only [nthOp]; (first | go_big_quiet_step (fail) | quiet_step (fail)); refine wpQuiet_nil ?_)
     (refine wpTree_take ?_; simp only [nthOp]; (first | go_big_quiet_step (fail) | quiet_step (fail)); refine wpQuiet_nil ?_)
     (refine wpTree_take ?_; simp only [nthOp]; (first | go_big_quiet_step (fail) | quiet_step (fail)); refine wpQuiet_nil ?_)
     refine wpTree_one ?_
     simp only [nthOp]
     obtain ⟨z0, zf0⟩ := HZ.out
     have z0' := z0
     simp only [List.length_nil] at z0'
     go_wp2_with fail
     have HK := Lib.hid (got1 z0 (.slice ka V.length kc))
     have HKF := Lib.hid (show (wt16.setCell ⟨gz, 0, none⟩ (.slice ka V.length kc)).frozen? ⟨gz, 0, none⟩ = false by rw [frozen_set]; exact zf0)
     have HKV := Lib.hid (cells_set HKV.out HNE.out z0 (fun hn => absurd rfl hn) (.slice ka V.length kc))
     have HC := Lib.hid (HC.out.setCell (p := ⟨gz, 0, none⟩) HGZ.out (.slice ka V.length kc))
     clear z0 z0' zf0
     refine One_mk (KW.mk' HC.out) ?_
     generalize (wt16.setCell ⟨gz, 0, none⟩ (.slice ka V.length kc)) = wt17 at *
     refine wpTree_done ?_
     simp only [List.drop_succ_cons, List.drop_zero]
     go_wp2_with fail
     refine NP_mk ?_
     exact cut_meet (by simp [forget]) ⟨gz, ka, kc, rfl, rfl, HK.out, HKF.out, HKV.out, HC.out⟩
   rintro u W8 ⟨g9, la, lc, hu1, hu2, l0, lf0, hlv, hb⟩
   subst hVV hEE
   simp only [forget, List.foldl_cons, List.foldl_nil, hu1, hu2, List.setIfInBounds_toArray, List.set_cons_succ, List.set_cons_zero]
   (have a0 := cell_keep hb a0; have b0 := cell_keep hb b0)
   (have m0 := cell_keep hb m0; have HMV := Lib.hid (HMV.out.keep hb))
   (have j0 := cell_keep hb j0; have HJV := Lib.hid (HJV.out.keep hb))
   have HLV := Lib.hid hlv
   have HB8 := Lib.hid (HB5.out.trans (hb.mono HB5.out.size))
   clear hb hu1 hu2 hlv lf0 HB5 HB7 HCF HCL HC1 HC3
   have HCT8 := Lib.hid (HCT.out W8 HB8.out)
   clear HCT
   by_cases ht : twoE A B = 0
   ·obtain ⟨va1, vb1⟩ := twoE_zero.1 ht
    have hva := solE_zero.1 va1
    have hvb := solE_zero.1 vb1
    have hA3 := HA3.out hva.1
    have hB3 := HB3L.out hvb.1
    have j1 : joinE A B = 0 := by unfold joinE; rw [if_neg (by simpa using ht), if_neg (by omega)]
    have j2 : joinV A B = A ++ B := by unfold joinV; rw [if_pos j1]
    obtain ⟨b1, b2⟩ := both_same ht
    obtain ⟨c1, c2⟩ := min_same ht
    have HR1 := Lib.hid (fun W (h : Below w.heap.size w W) => meetR_any A B aa ba ac bc W (HVA.out.keep h) (HVB.out.keep h) (by omega) (by omega) (fun x hx => valid_good (hva.2 x hx)) (fun x hx => valid_good (hvb.2 x hx)))
    have HR2 := Lib.hid (fun W (h : Below w.heap.size w W) => minusR_any A B aa ba ac bc W (HVA.out.keep h) (HVB.out.keep h) hva.1 hvb.1 hva.2 hvb.2)
    rw [← b1, ← b2, hlm5] at HR1
    rw [← c1, ← c2, hlm7] at HR2
    have HBL := Lib.hid (show ((bothV A B).map Cell.mk).length ≤ 1000 by rw [← hlm5]; have := bothV_len ht; omega)
    have HLL := Lib.hid (show ((leftV A B).map Cell.mk).length ≤ 1000 by rw [← hlm7]; have := leftV_len ht; omega)
    have HBP := Lib.hid (valid_pl (both_val (A := A) (B := B)))
    have HLP := Lib.hid (valid_pl (left_valid (A := A) (B := B)))
    have HPAB := Lib.hid (show ∀ x ∈ A ++ B, x.planes.length ≤ 100000 from fun x hx => (List.mem_append.1 hx).elim (fun h => by have := HPA.out x h; omega) (fun h => by have := HPB.out x h; omega))
    rw [j2] at j0 HJV
    rw [j1]
    rw [ht] at HCT8
    clear HNE6 hlm5 hlm7 b1 b2 c1 c2 j1 j2 va1 vb1 hva hvb ht
    generalize bothE A B = E5 at *
    generalize minE A B = E9 at *
    generalize (bothV A B).map Cell.mk = MV at *
    generalize (leftV A B).map Cell.mk = LV at *
    have e5a : (E5 != E5) = false := by simp
    have e5b : (E5 == E5) = true := by simp
    have e9a : (E9 == E9) = true := by simp
    go_upto_region 11 with (go_at_call 36; refine HCT8.out.mono ?_; rintro e w9 ⟨rfl, hb⟩; (have a0 := cell_keep hb a0; have b0 := cell_keep hb b0); (have m0 := cell_keep hb m0; have HMV := Lib.hid (HMV.out.keep hb)); (have j0 := cell_keep hb j0; have HJV := Lib.hid (HJV.out.keep hb)); (have l0 := cell_keep hb l0; have HLV := Lib.hid (HLV.out.keep hb)); have HB9 := Lib.hid (HB8.out.trans (hb.mono HB8.out.size)); clear hb)
    have HR1W := Lib.hid (HR1.out w9 HB9.out)
    clear HR1 HCT8
    go_upto_region 12 with (go_at_call 62; refine HR1W.out.mono ?_; rintro e w10 ⟨na, nc, rfl, hnv, hb⟩; (have a0 := cell_keep hb a0; have b0 := cell_keep hb b0); (have m0 := cell_keep hb m0; have HMV := Lib.hid (HMV.out.keep hb)); (have j0 := cell_keep hb j0; have HJV := Lib.hid (HJV.out.keep hb)); (have l0 := cell_keep hb l0; have HLV := Lib.hid (HLV.out.keep hb)); have HNV := Lib.hid hnv; have HB10 := Lib.hid (HB9.out.trans (hb.mono HB9.out.size)); clear hb hnv)
    have HG12 := Lib.hid (show w10.heap.size ≠ g9 by have h : g9 < w10.heap.size := block_lt_of_cell l0; omega)
    have HGL := Lib.hid (show w.heap.size ≤ w10.heap.size from HB10.out.size)
    refine gen_world (fun W => W.cell? ⟨w10.heap.size, 0, none⟩ = some (.slice na MV.length nc) ∧ W.frozen? ⟨w10.heap.size, 0, none⟩ = false ∧ Below w10.heap.size w10 W) ⟨by simp [go_sem], by simp [go_sem], by repeat (first | (with_reducible assumption) | exact Below.refl _ _ | (refine Below.setCell ?_ (by first | omega | (simp; omega) | (simp; done)) _) | (refine Below.alloc ?_ (by first | omega | (simp; omega) | (simp; done)) _) | (refine Below.drew ?_))⟩ ?_
    rintro W10 ⟨n0, nf0, hb⟩
    (have a0 := cell_keep hb a0; have b0 := cell_keep hb b0)
    (have m0 := cell_keep hb m0; have HMV := Lib.hid (HMV.out.keep hb))
    (have j0 := cell_keep hb j0; have HJV := Lib.hid (HJV.out.keep hb))
    (have l0 := cell_keep hb l0; have HLV := Lib.hid (HLV.out.keep hb))
    have HNV := Lib.hid (HNV.out.keep hb)
    have HB10 := Lib.hid (HB10.out.trans (hb.mono HB10.out.size))
    clear hb HR1W
    generalize w10.heap.size = g12 at *
    obtain ⟨LA, hla2, hpva, hppa⟩ := cells_prs (HVA.out.keep HB10.out)
    obtain ⟨LB, hlb2, hpvb, hppb⟩ := cells_prs (HVB.out.keep HB10.out)
    have HLA := Lib.hid (show LA.length = A.length by have := congrArg List.length hla2; rwa [List.length_map] at this)
    have HLB := Lib.hid (show LB.length = B.length by have := congrArg List.length hlb2; rwa [List.length_map] at this)
    have HMA := Lib.hid hla2
    have HMB := Lib.hid hlb2
    have HPVA := Lib.hid hpva
    have HPVB := Lib.hid hpvb
    have HPPA := Lib.hid hppa
    have HPPB := Lib.hid hppb
    clear hla2 hlb2 hpva hpvb hppa hppb
    have HSM := Lib.hid (fun W (h : Below W10.heap.size W10 W) => sameSelf MV ma na mc nc W HBL.out HBP.out (HMV.out.keep h) (HNV.out.keep h))
    have kx0 : ∀ y : KW (fun W' => Below W10.heap.size W10 W'), (y.w.cell? ⟨gw, 0, none⟩ = some (.slice aa A.length ac) ∧ y.w.cell? ⟨gw + 1, 0, none⟩ = some (.slice ba B.length bc) ∧ y.w.cell? ⟨g5, 0, none⟩ = some (.slice ma MV.length mc) ∧ y.w.cell? ⟨g12, 0, none⟩ = some (.slice na MV.length nc) ∧ y.w.cell? ⟨g7, 0, none⟩ = some (.slice ja (A ++ B).length jc)) := fun y => ⟨cell_keep y.ok a0, cell_keep y.ok b0, cell_keep y.ok m0, cell_keep y.ok n0, cell_keep y.ok j0⟩
    haveI n1 : Nonempty (KW (fun W' => Below W10.heap.size W10 W')) := ⟨⟨W10, Below.refl _ _⟩⟩
    refine wp_region_tree (fun w' => ∃ y : KW (fun W' => Below W10.heap.size W10 W'), w' = y.w) 23 (.take 0 (.take 1 (.take 2 (.take 3 (.take 4 (.take 5 (.one 6 (.take 7 (.take 8 (.take 9 (.take 10 (.take 11 (.take 12 (.take 13 (.take 14 (.take 16 (.take 17 (.take 19 (.take 20 (.one 15 (.one 18 (.one 21 (.take 22 .done))))))))))))))))))))))) hmix (by kernel_rfl) (KW.mk' (Below.refl _ _).drew) ?_
    have HC := Lib.hid (show Below W10.heap.size W10 W10.drew from (Below.refl _ _).drew)
    generalize W10.drew = wz at *
    (refine wpTree_take ?_; simp only [nthOp]; (first | go_big_quiet_step (fail) | quiet_step (fail)); refine wpQuiet_nil ?_)
    (refine wpTree_take ?_; simp only [nthOp]; (first | go_big_quiet_step (fail) | quiet_step (fail)); refine wpQuiet_nil ?_)
    (refine wpTree_take ?_; simp only [nthOp]; (first | go_big_quiet_step (fail) | quiet_step (fail)); refine wpQuiet_nil ?_)
    (refine wpTree_take ?_; simp only [nthOp]; (first | go_big_quiet_step (fail) | quiet_step (fail)); refine wpQuiet_nil ?_)
    (refine wpTree_take ?_; simp only [nthOp]; (first | go_big_quiet_step (fail) | quiet_step (fail)); refine wpQuiet_nil ?_)
    (refine wpTree_take ?_; simp only [nthOp]; (first | go_big_quiet_step (fail) | quiet_step (fail)); refine wpQuiet_nil ?_)
    refine wpTree_one ?_
    simp only [nthOp]
    have HQ := Lib.hid (HSM.out wz HC.out)
    go_wp2_with (go_at_call 58; refine HQ.out.mono ?_; rintro e wt1 ⟨rfl, hb⟩; have HC := Lib.hid (HC.out.trans (hb.mono HC.out.size)); clear hb)
    refine One_mk (KW.mk' HC.out) ?_
    clear HQ
    (refine wpTree_take ?_; simp only [nthOp]; (first | go_big_quiet_step (fail) | quiet_step (fail)); refine wpQuiet_nil ?_)
    (refine wpTree_take ?_; simp only [nthOp]; (first | go_big_quiet_step (fail) | quiet_step (fail)); refine wpQuiet_nil ?_)
    (refine wpTree_take ?_; simp only [nthOp]; (first | go_big_quiet_step (fail) | quiet_step (fail)); refine wpQuiet_nil ?_)
    (refine wpTree_take ?_; simp only [nthOp]; (first | go_big_quiet_step (fail) | quiet_step (fail)); refine wpQuiet_nil ?_)
    (refine wpTree_take ?_; simp only [nthOp]; (first | go_big_quiet_step (fail) | quiet_step (fail)); refine wpQuiet_nil ?_)
    (refine wpTree_take ?_; simp only [nthOp]; (first | go_big_quiet_step (fail) | quiet_step (fail)); refine wpQuiet_nil ?_)
    (refine wpTree_take ?_; simp only [nthOp]; (first | go_big_quiet_step (fail) | quiet_step (fail)); refine wpQuiet_nil ?_)
    (refine wpTree_take ?_; simp only [nthOp]; (first | go_big_quiet_step (fail) | quiet_step (fail)); refine wpQuiet_nil ?_)
    (refine wpTree_take ?_; simp only [nthOp]; (first | go_big_quiet_step (fail) | quiet_step (fail)); refine wpQuiet_nil ?_)
    (refine wpTree_take ?_; simp only [nthOp]; (first | go_big_quiet_step (fail) | quiet_step (fail)); refine wpQuiet_nil ?_)
    (refine wpTree_take ?_; simp only [nthOp]; (first | go_big_quiet_step (fail) | quiet_step (fail)); refine wpQuiet_nil ?_)
    (refine wpTree_take ?_; simp only [nthOp]; (first | go_big_quiet_step (fail) | quiet_step (fail)); refine wpQuiet_nil ?_)
    refine wpTree_one ?_
    simp only [nthOp]
    go_wp2_with fail
    have HO0 := Lib.hid (World.ownsRow_made (e := 24) (base := W10.heap.size) (size := 1) wt1 #[] 0 HC.out.size (by decide) (by simp))
    have HC := Lib.hid (HC.out.alloc HC.out.size (.cells #[] 24))
    refine One_mk (KW.mk' HC.out) ?_
    generalize (wt1.alloc (.cells #[] 24)) = wt2 at *
    generalize wt1.heap.size = g0 at *
    refine wpTree_one ?_
    simp only [nthOp]
    have HTN := Lib.hid (prsNews (HPVA.out.keep HC.out))
    go_wp2_with (at_builtin; go_loud (refine wpList_append_rowsW cellsPR_len cellsPR_one (by decide) (by simp only [Region.wanted, yielded, List.getElem?_toArray, List.getElem?_cons_succ, List.getElem?_cons_zero, Array.getD_eq_getD_getElem?, Option.getD_some, Option.bind_some]; rfl) _ _ 46 rfl W10.heap.size 24 i0 (.agg #[.slice none 0 0]) 24 Tryz.underlying46 hi0 hz0 hz1 hz2 rfl (by decide) (.slice (some ⟨g0, 0, none⟩) 0 0) 0 [] rfl HO0.out aa LA ac (by rw [HLA.out]; rfl) HTN.out (by have := HLA.out; have := HLB.out; omega) HC.out.size ?_; intro v' wt3 ho hg ha; obtain ⟨a4, c4, rfl, -, -⟩ := own_slice ho; have HO4 := Lib.hid (show wt3.ownsRow W10.heap.size 24 1 (.slice a4 LA.length c4) LA.length (LA.flatMap cellsPR) by simpa using ho); have HC := Lib.hid (below_grown HC.out hg HC.out.size fun k hk => (own_lt HO0.out hk).1); clear ho hg ha))
    refine One_mk (KW.mk' HC.out) ?_
    clear HTN
    refine wpTree_one ?_
    simp only [nthOp]
    have HTN := Lib.hid (prsNews (HPVB.out.keep HC.out))
    go_wp2_with (at_builtin; go_loud (refine wpList_append_rowsW cellsPR_len cellsPR_one (by decide) (by simp only [Region.wanted, yielded, List.getElem?_toArray, List.getElem?_cons_succ, List.getElem?_cons_zero, Array.getD_eq_getD_getElem?, Option.getD_some, Option.bind_some]; rfl) _ _ 46 rfl W10.heap.size 24 i0 (.agg #[.slice none 0 0]) 24 Tryz.underlying46 hi0 hz0 hz1 hz2 rfl (by decide) (.slice a4 LA.length c4) LA.length (LA.flatMap cellsPR) rfl HO4.out ba LB bc (by rw [HLB.out]; rfl) HTN.out (by have := HLA.out; have := HLB.out; omega) HC.out.size ?_; intro v' wt4 ho hg ha; have ho5 := (show wt4.ownsRow W10.heap.size 24 1 v' (A ++ B).length ((LA ++ LB).flatMap cellsPR) by rw [List.flatMap_append, List.length_append, ← HLA.out, ← HLB.out]; exact ho); obtain ⟨a5, c5, rfl, -, -⟩ := own_slice ho5; have HO5 := Lib.hid ho5; clear ho5; have HC := Lib.hid (below_grown HC.out hg HC.out.size fun k hk => (own_lt HO4.out hk).1); clear ho hg ha))
    refine One_mk (KW.mk' HC.out) ?_
    clear HTN
    (refine wpTree_take ?_; simp only [nthOp]; (first | go_big_quiet_step (fail) | quiet_step (fail)); refine wpQuiet_nil ?_)
    refine wpTree_done ?_
    simp only [List.drop_succ_cons, List.drop_zero]
    have HJ2 := Lib.hid (show Cells.V wt4 a5 (A ++ B) by have h := prs_cells2 HO5.out (fun q hq => (List.mem_append.1 hq).elim (fun h => ⟨(HPPA.out q h).1.keep HC.out, (HPPA.out q h).2⟩) (fun h => ⟨(HPPB.out q h).1.keep HC.out, (HPPB.out q h).2⟩)); rw [List.map_append, HMA.out, HMB.out] at h; exact h)
    have HQ := Lib.hid (sameSelf (A ++ B) ja a5 jc c5 wt4 (by rw [List.length_append]; omega) HPAB.out (HJV.out.keep HC.out) HJ2.out)
    rw [List.length_append] at HQ
    go_wp2_with (go_at_call 58; refine HQ.out.mono ?_; rintro e w12 ⟨rfl, hb⟩; have HC := Lib.hid (HC.out.trans (hb.mono HC.out.size)); clear hb)
    refine NP_mk ?_
    have hb := HC.out
    (have a0 := cell_keep hb a0; have b0 := cell_keep hb b0)
    (have l0 := cell_keep hb l0; have HLV := Lib.hid (HLV.out.keep hb))
    have nf0 := frozen_keep hb (block_lt_of_cell n0) nf0
    have n0 := cell_keep hb n0
    have HNV := Lib.hid (HNV.out.keep hb)
    have HB12 := Lib.hid (HB10.out.trans (hb.mono HB10.out.size))
    clear hb kx0 n1 HC HQ HO5 HO4 HO0 HJ2 HSM HPVA HPVB HPPA HPPB HMA HMB HLA HLB HJV j0 m0 HMV
    have HR2W := Lib.hid (HR2.out w12 HB12.out)
    clear HR2
    go_upto_region 15 with (go_at_call 63; refine HR2W.out.mono ?_; rintro e w14 ⟨pa, pc, rfl, hnv, hb⟩; (have a0 := cell_keep hb a0; have b0 := cell_keep hb b0); (have l0 := cell_keep hb l0; have HLV := Lib.hid (HLV.out.keep hb)); have nf0 := frozen_keep hb (block_lt_of_cell n0) nf0; have n0 := cell_keep hb n0; have HNV := Lib.hid (HNV.out.keep hb); have HPV := Lib.hid hnv; have HB14 := Lib.hid (HB12.out.trans (hb.mono HB12.out.size)); clear hb hnv)
    have hg : (⟨g12, 0, none⟩ : Addr) ≠ ⟨g9, 0, none⟩ := fun e => by injection e with e; exact HG12.out e
    have HX1 := Lib.hid (cells_set HLV.out HNE7.out n0 HNV.out (.slice pa LV.length pc))
    have HX2 := Lib.hid (cells_set HPV.out HNE7.out n0 HNV.out (.slice pa LV.length pc))
    have n0 := got1 n0 (.slice pa LV.length pc)
    have l0 : (w14.setCell ⟨g12, 0, none⟩ (.slice pa LV.length pc)).cell? ⟨g9, 0, none⟩ = some (.slice la LV.length lc) := by rw [cell_set_ne hg rfl rfl]; exact l0
    have HB15 := Lib.hid (HB14.out.setCell (p := ⟨g12, 0, none⟩) HGL.out (.slice pa LV.length pc))
    generalize (w14.setCell ⟨g12, 0, none⟩ (.slice pa LV.length pc)) = W15 at *
    have HQ := Lib.hid (sameSelf LV la pa lc pc W15 HLL.out HLP.out HX1.out HX2.out)
    go_wp2_with (go_at_call 58; refine HQ.out.mono ?_; rintro e w15 ⟨rfl, hb⟩; have HB16 := Lib.hid (HB15.out.trans (hb.mono HB15.out.size)); clear hb)
    go_ret
    exact ⟨rfl, HB16.out⟩
   ·have e1 : bothE A B = twoE A B := by unfold bothE; rw [if_pos ht]
    have e2 : joinE A B = twoE A B := by unfold joinE; rw [if_pos ht]
    have e3 : minE A B = twoE A B := by unfold minE; rw [if_pos ht]
    have v1 : bothV A B = [] := by unfold bothV; rw [if_pos ht]
    have v2 : joinV A B = [] := by unfold joinV; rw [if_neg (by rw [e2]; exact ht)]
    have v3 : leftV A B = [] := by unfold leftV; rw [if_pos ht]
    rw [v1] at m0
    rw [v2] at j0
    rw [v3] at l0
    simp only [List.map_nil, List.length_nil] at m0 j0 l0
    rw [e1, e2, e3]
    clear e1 e2 e3 v1 v2 v3 HMV HJV HLV HNE5 HNE6 HNE7 hlm5 hlm7
    have htb : (twoE A B != 0) = true := by simpa using ht
    have hte : (twoE A B == twoE A B) = true := by simp
    generalize twoE A B = D at *
    go_wp2_with (go_at_call 36; refine HCT8.out.mono ?_; rintro e w9 ⟨rfl, hb⟩; (have a0 := cell_keep hb a0; have b0 := cell_keep hb b0); have m0 := cell_keep hb m0; have j0 := cell_keep hb j0; have l0 := cell_keep hb l0; have HB9 := Lib.hid (HB8.out.trans (hb.mono HB8.out.size)); clear hb)
    go_ret
    exact ⟨rfl, HB9.out⟩
  ·have h2' : fewB B 3 = false := by simpa using h2
   rw [h2'] at HF2
   clear h2 h2'
   go_wp2_with (first | (have h := HF1.out; clear HF1; go_at_call 32; refine (h _ HB1.out).mono ?_; clear h; rintro e w2 ⟨rfl, hb⟩; (have a0 := cell_keep hb a0; have b0 := cell_keep hb b0); have HB2 := Lib.hid (HB1.out.trans (hb.mono HB1.out.size)); clear hb) | (have h := HF2.out; clear HF2; go_at_call 32; refine (h _ HB2.out).mono ?_; clear h; rintro e w3 ⟨rfl, hb⟩; (have a0 := cell_keep hb a0; have b0 := cell_keep hb b0); have HB3 := Lib.hid (HB2.out.trans (hb.mono HB2.out.size)); clear hb))
   go_ret
   exact ⟨rfl, HB3.out⟩
 ·have h1' : fewB A 3 = false := by simpa using h1
  rw [h1'] at HF1
  clear h1 h1'
  go_wp2_with (have h := HF1.out; clear HF1; go_at_call 32; refine (h _ HB1.out).mono ?_; clear h; rintro e w2 ⟨rfl, hb⟩; (have a0 := cell_keep hb a0; have b0 := cell_keep hb b0); have HB2 := Lib.hid (HB1.out.trans (hb.mono HB1.out.size)); clear hb)
  go_ret
  exact ⟨rfl, HB2.out⟩
set_option maxRecDepth 100000 in
theorem solidMeets_walks : Walks 13 Tryz.f13 := by
 intro H enc W base args ds p hval hA hlt
 rw [Tryz.params13] at hA hval
 obtain ⟨v0, vs0, d0, ds0, p0, q0, hargs, rfl, rfl, ⟨fu0, hf0⟩, r0⟩ := trodAll_cons hA
 obtain ⟨v1, vs1, d1, ds1, p1, q1, rfl, rfl, rfl, ⟨fu1, hf1⟩, r1⟩ := trodAll_cons r0
 obtain ⟨rfl, rfl, rfl⟩ := trodAll_nil r1
 obtain rfl : args = #[v0, v1] := by cases args; simp_all
 obtain ⟨cs0, rfl, -⟩ := okWide_struct Tryz.underlying48 (hval 0 48 v0 rfl rfl)
 obtain ⟨x0, a0, c0, hc0, V0, C0, M0, -⟩ := Solid.open_ hf0
 have hd0 : cs0 = #[.slice a0 x0.cells.length c0] := by
  cases cs0; simpa [Value.cells] using hc0
 subst hd0
 obtain ⟨cs1, rfl, -⟩ := okWide_struct Tryz.underlying48 (hval 1 48 v1 rfl rfl)
 obtain ⟨x1, a1, c1, hc1, V1, C1, M1, -⟩ := Solid.open_ hf1
 have hd1 : cs1 = #[.slice a1 x1.cells.length c1] := by
  cases cs1; simpa [Value.cells] using hc1
 subst hd1
 exact walkSolidMeets x0 a0 c0 x1 a1 c1 W V0 (by unfold maxLen at M0; omega) C0 V1 (by unfold maxLen at M1; omega) C1

set_option maxRecDepth 100000 in
theorem solidMeets_holds : Rows.SolidMeetsSaid :=
 law_holds (s := Rows.solidMeetsSpec) (c := Rows.solidMeetsRow) 13 Tryz.f13 rfl
  (fun H ds h => by match ds, h with | [_, _], _ => rfl) (by kernel_rfl) (by kernel_rfl)
  rfl rfl rfl rfl rfl rfl rfl ⟨rfl, rfl, rfl, rfl, rfl⟩ rfl rfl rfl rfl rfl rfl rfl rfl rfl rfl (fun _ _ => rfl) (by kernel_rfl) Tryz.func13
  solidMeets_closed (of_decide_eq_true (by kernel_rfl)) (by unfold Func.isWrapper; first | (rw [if_pos (by decide +kernel)]; kernel_rfl) | (rw [if_neg (by decide +kernel)]; exact ⟨rfl, rfl⟩)) (by kernel_rfl)
  (fun H enc os => ChangeSpec.witness6 (enc := enc) (C := Tryz.checked) false ⟨#[], #[.agg #[.slice none 0 0], .agg #[.slice none 0 0]], []⟩ 8 (by kernel_rfl) (by kernel_rfl) (by kernel_rfl) (by kernel_rfl))
  solidMeets_walks
end Go.Proofs.YtbhgkadklklmbaaGreat
