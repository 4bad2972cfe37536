/- The program's covered area: the sort of intervals, lines of a row that may be nil, plain facts. -/
import Derived.Test.YthhchnhidhgccaaClear4
import Derived.Test.YthhchnhidhgccaaAreaLaw
import Derived.Test.YthhchnhidhgccaaOverlap
set_option linter.unusedVariables false
set_option linter.unusedSimpArgs false
namespace Go.Proofs.Ythhchnhidhgccaa
open Go Go.RowKit

/-! The sort of intervals by their beginning. -/
abbrev BI : Type := {x : Iv // -1000000 ≤ x.1 ∧ x.1 ≤ 1000000}
instance : Inhabited BI := ⟨⟨(0, 0), by decide⟩⟩
def encBI (x : BI) : List Value := cellsI x.1
def cmpBI (x y : BI) : Int := x.1.1 - y.1.1
theorem ltBI (x y : BI) : ltOf cmpBI x y = decide (x.1.1 < y.1.1) := by
  unfold ltOf cmpBI
  by_cases h1 : x.1.1 < y.1.1
  · simp [h1]; omega
  · simp [h1]; omega
theorem swoBI : Go.Sort.SWO (ltOf cmpBI) where
  irrefl x := by rw [ltBI]; simp
  trans x y z h1 h2 := by rw [ltBI] at *; simp at *; omega
  ntrans x y z h1 h2 := by rw [ltBI] at *; simp at *; omega
set_option maxHeartbeats 1000000 in
theorem defective1_any (x y : BI) (w : World) :
    Calls Try.prog 123 #[.agg (encBI x).toArray, .agg (encBI y).toArray] w fun e w' => e = .returned (.int .i64 (cmpBI x y)) ∧ ∃ q os', w' = Go.Sort.grow (w.drewN q) os' := by
  obtain ⟨⟨x, x'⟩, hx1, hx2⟩ := x
  obtain ⟨⟨y, y'⟩, hy1, hy2⟩ := y
  simp only at hx1 hx2 hy1 hy2
  show Calls Try.prog 123 #[.agg #[.int .i64 x, .int .i64 x'], .agg #[.int .i64 y, .int .i64 y']] w fun e w' => e = .returned (.int .i64 (x - y)) ∧ ∃ q os', w' = Go.Sort.grow (w.drewN q) os'
  go_enter Try.func123, Try.ntmps123
  go_wp2_with fail
  go_ret
  exact ⟨rfl, 0, _, by rw [Go.Sort.alloc_eq_grow, Go.Sort.alloc_eq_grow, Go.Sort.grow_grow]; rfl⟩
theorem cmpLaysBI (blk off size : Nat) (w : World) : CmpLays Try.prog 123 #[] encBI 2 cmpBI blk off size w := fun _ _ _ _ x y => by
  have h := defective1_any x y
  simpa using h _
theorem sortIv_any (base : Nat) (v : Value) (n : Nat) (l : List Iv) (w : World) (h : w.ownsRow base 41 2 v n (l.flatMap cellsI)) (hb : ∀ d ∈ l, -1000000 ≤ d.1 ∧ d.1 ≤ 1000000) (hl : l.length ≤ 1000) (hbase : base ≤ w.heap.size) :
    Calls Try.prog 122 #[v, .func (.func 123) #[] #[]] w fun e w' => e = .returned (.tuple #[]) ∧ ∃ r : List Iv, r.Perm l ∧ r.Pairwise (fun c d => c.1 ≤ d.1) ∧ w'.ownsRow base 41 2 v n (r.flatMap cellsI) ∧ Below base w w' := by
  have eg : ∀ args w, (callFunc 123 args).run Try.prog w = .ok (.enter 123 args) w := enters_of Try.func123 (by kernel_rfl) rfl
  have hn := own_len cellsI_len (by decide) h
  by_cases hne : l = []
  · subst hne
    obtain ⟨a, c, rfl, _, _⟩ := own_slice h
    simp only [List.length_nil] at hn
    subst hn
    exact (AnyF.slices_SortFunc_none Try.sortIv a c _ w).mono fun e w' ⟨he, hw⟩ => ⟨he, [], List.Perm.refl _, List.Pairwise.nil, by rw [hw]; exact h, by rw [hw]; exact Below.refl _ _⟩
  · obtain ⟨L, rfl⟩ := lift_sub hb
    have hL : L ≠ [] := by rintro rfl; simp at hne
    have h' : w.ownsRow base 41 2 v n (L.flatMap encBI) := by rw [show L.flatMap encBI = (L.map (·.1)).flatMap cellsI from flat_sub L]; exact h
    obtain ⟨g, cap, rfl, hbg, hg, hnl, hH⟩ := holdsK_of_own (enc := encBI) (fun x => rfl) h' hL (by decide)
    have hcon := AnyQ.slices_SortFunc Try.sortIv 2 Try.isAgg41 Try.sizeOf41 encBI (fun _ => rfl) (fun x v hv => cellsI_one x.1 v hv) cmpBI swoBI 123 #[] g 0 cap L.toArray w eg (cmpLaysBI g 0 L.toArray.size w) hH hg (by simp at hl ⊢; omega)
    have hnl' : L.toArray.size = n := by simp [hnl]
    rw [hnl'] at hcon
    refine hcon.mono fun e w' ⟨he, d', m, os, hp, hs, hw⟩ => ?_
    rw [← hnl'] at hp hs
    obtain ⟨hd, hperm⟩ := perm_of_permIn hp
    have hsrt := pairwise_of_sorted (by simpa using hd.symm) hs
    refine ⟨he, d'.toList.map (·.1), ?_, ?_, ?_, ?_⟩
    · have := hperm.map (·.1); simpa using this
    · rw [List.pairwise_map]
      exact hsrt.imp fun {x y} hxy => by rw [ltBI] at hxy; simpa using hxy
    · rw [← flat_sub, hw]
      exact own_sorted (enc := encBI) (fun _ => rfl) (by decide) h' (by rw [hd, hnl'])
    · rw [hw]
      exact below_sorted (Below.refl _ _) hbg hg hbase

/-- lines of a row of the call's own, nil too. -/
theorem linesV_any (base : Nat) (v : Value) (n : Nat) (zs : List Int) (w : World) (h : w.ownsRow base 3 1 v n (zs.map (Value.int .i64))) (hl : zs.length < 1000000) (hbase : base ≤ w.heap.size) :
    Calls Try.prog 112 #[v] w fun e w' => ∃ (a' : Option Addr) (c' : Nat), e = .returned (.slice a' (uniq zs).length c') ∧ IntsV w' a' (uniq zs) ∧ Below base w w' := by
  have hn : n = zs.length := by have := h.1; simp at this; omega
  subst hn
  by_cases hne : zs = []
  · subst hne
    obtain ⟨a, c, rfl, _, _⟩ := own_slice h
    have hu : uniq [] = [] := uniq_eq (by simp) (by simp)
    rw [hu]
    show Calls Try.prog 112 #[.slice a 0 c] w fun e w' => ∃ (a' : Option Addr) (c' : Nat), e = .returned (.slice a' 0 c') ∧ IntsV w' a' [] ∧ Below base w w'
    go_enter Try.func112, Try.ntmps112
    go_wp2_with (first
      | (go_at_call 124; refine (Try.slices_Sort_int_none a c _).mono ?_; rintro e w1 ⟨rfl, rfl⟩)
      | (go_at_call 125; refine (Try.slices_Compact_int_empty a c _).mono ?_; rintro e w2 ⟨rfl, rfl⟩))
    go_ret
    exact ⟨a, c, rfl, fun h => absurd rfl h, Below.refl _ _⟩
  · rcases h.2 with ⟨_, h0⟩ | ⟨g, cap, cur, rfl, hb, hg, r⟩
    · exact absurd (List.length_eq_zero_iff.1 h0) hne
    · refine (lines_any base g cap zs w h hl).mono ?_
      rintro e w' ⟨he, ho, hgr⟩
      refine ⟨_, cap, he, ?_, (Below.refl _ _).grown hgr hbase (fun j hj => by injection hj with hj; omega)⟩
      exact own_ints ho

/-! Plain facts. -/
theorem sumN_bd {g : Int → Int} (h : ∀ p, 0 ≤ g p ∧ g p ≤ 1) (a : Int) : ∀ n : Nat, 0 ≤ sumN g a n ∧ sumN g a n ≤ n
  | 0 => by simp [sumN]
  | n + 1 => by
    have := sumN_bd h a n
    have := h (a + n)
    simp only [sumN]; omega
theorem cover_bd {wd : Int} (hw : 0 ≤ wd) (s : List Iv) : 0 ≤ cover wd s ∧ cover wd s ≤ wd := by
  unfold cover sumR
  have := sumN_bd (g := fun y => ind (rowCov s y)) (fun p => by unfold ind; split <;> omega) 0 (wd - 0).toNat
  omega
theorem stripA_bd {ds : List Rect} {wd x x' : Int} (hx : 0 ≤ x) (hxx : x < x') (hx' : x' ≤ 600000) (hw : 0 ≤ wd) (hw' : wd ≤ 100000) : 0 ≤ stripA ds wd x x' ∧ stripA ds wd x x' ≤ 60000000000 := by
  unfold stripA
  obtain ⟨h1, h2⟩ := cover_bd hw (overl ds x x')
  have e1 : (x' - x) * cover wd (overl ds x x') ≤ 600000 * 100000 := Int.mul_le_mul (by omega) (by omega) h1 (by omega)
  exact ⟨Int.mul_nonneg (by omega) h1, by omega⟩
theorem chain_step {f : Int → Int → Int} {X : List Int} {k : Nat} {A s : Int} (hk : k + 1 < X.length) (h : A = s + chain f (X.drop k)) : A = (s + f X[k] X[k + 1]) + chain f (X.drop (k + 1)) := by
  rw [h, List.drop_eq_getElem_cons (by omega : k < X.length), List.drop_eq_getElem_cons hk, chain]; omega
theorem chain_end {f : Int → Int → Int} {X : List Int} {k : Nat} {A s : Int} (hk : X.length ≤ k + 1) (h : A = s + chain f (X.drop k)) : A = s := by
  rw [h]
  by_cases hk' : k < X.length
  · rw [List.drop_eq_getElem_cons hk', List.drop_of_length_le hk]; simp [chain]
  · rw [List.drop_of_length_le (by omega)]; simp [chain]
def spansK (ds : List Rect) (x x' wd : Int) (k : Nat) : List Iv := ((ds.take k).filter fun d => overlapB d ⟨x, 0, x', wd⟩).map fun d => (d.y1, d.y2)
theorem spansK_yes {ds : List Rect} {x x' wd : Int} {k : Nat} (hk : k < ds.length) (h : overlapB ds[k] ⟨x, 0, x', wd⟩ = true) : spansK ds x x' wd (k + 1) = spansK ds x x' wd k ++ [(ds[k].y1, ds[k].y2)] := by
  unfold spansK
  rw [List.take_succ_eq_append_getElem hk, List.filter_append, List.filter_cons, if_pos h, List.filter_nil, List.map_append]; rfl
theorem spansK_no {ds : List Rect} {x x' wd : Int} {k : Nat} (hk : k < ds.length) (h : overlapB ds[k] ⟨x, 0, x', wd⟩ = false) : spansK ds x x' wd (k + 1) = spansK ds x x' wd k := by
  unfold spansK
  rw [List.take_succ_eq_append_getElem hk, List.filter_append, List.filter_cons, if_neg (by simp [h]), List.filter_nil, List.append_nil]
theorem spansK_len (ds : List Rect) (x x' wd : Int) (k : Nat) : (spansK ds x x' wd k).length ≤ k := by
  unfold spansK
  rw [List.length_map]
  exact Nat.le_trans (List.length_filter_le _ _) (List.length_take_le _ _)
theorem spansK_all {ds : List Rect} {x x' wd : Int} (hx : x < x') (hd : ∀ d ∈ ds, d.x1 < d.x2 ∧ 0 ≤ d.y1 ∧ d.y1 < d.y2 ∧ d.y2 ≤ wd) : spansK ds x x' wd ds.length = overl ds x x' := by
  unfold spansK overl
  rw [List.take_length]
  congr 1
  refine List.filter_congr fun d hd' => ?_
  have := hd d hd'
  unfold overlapB
  simp only
  rw [Bool.eq_iff_iff]
  simp only [decide_eq_true_eq, Bool.and_eq_true]
  omega
theorem spans_sum {w wd s : Int} {r : List Iv} (hp : r.Pairwise fun a b => a.1 ≤ b.1) (hr : ∀ v ∈ r, 0 ≤ v.1 ∧ v.1 < v.2 ∧ v.2 ≤ wd) (hw : 0 ≤ wd) : (r.foldl (spanStep w) (s, 0)).1 = s + w * cover wd r := by
  rw [spans_ok hp hr (Int.le_refl _) hw]; rfl
end Go.Proofs.Ythhchnhidhgccaa
