/- The program's clear lengths: slices.Clone and slices.SortFunc of rectangles. -/
import Derived.Test.YthhchnhidhgccaaOwnK
import Derived.Test.YthhchnhidhgccaaSorted
import Derived.Test.YthhchnhidhgccaaShelf2
import Derived.Test.YthhchnhidhgccaaClearLaw
import Derived.Shelf.SlSortCmp.NoneTotal
set_option linter.unusedVariables false
set_option linter.unusedSimpArgs false
namespace Go.Proofs.Ythhchnhidhgccaa
open Go Go.RowKit

theorem rect_info : (Try.prog.info? 55).map (fun i => (i.zero, i.size, i.bytes)) = some (some (.agg #[.int .i64 0, .int .i64 0, .int .i64 0, .int .i64 0]), 4, 32) := by kernel_rfl
theorem iv_info : (Try.prog.info? 41).map (fun i => (i.zero, i.size, i.bytes)) = some (some (.agg #[.int .i64 0, .int .i64 0]), 2, 16) := by kernel_rfl
def cellsR (x : Rect) : List Value := [.int .i64 x.x1, .int .i64 x.y1, .int .i64 x.x2, .int .i64 x.y2]
def cellsI (x : Iv) : List Value := [.int .i64 x.1, .int .i64 x.2]
theorem cellsR_len (x : Rect) : (cellsR x).length = 4 := rfl
theorem cellsI_len (x : Iv) : (cellsI x).length = 2 := rfl
theorem cellsR_one (x : Rect) : ∀ v ∈ cellsR x, v.oneCell' = true := by
  intro v hv
  simp only [cellsR, List.mem_cons, List.not_mem_nil, or_false] at hv
  rcases hv with rfl | rfl | rfl | rfl <;> rfl
theorem cellsI_one (x : Iv) : ∀ v ∈ cellsI x, v.oneCell' = true := by
  intro v hv
  simp only [cellsI, List.mem_cons, List.not_mem_nil, or_false] at hv
  rcases hv with rfl | rfl <;> rfl
def Iv.at (w : World) (b o : Nat) (x : Iv) : Prop := w.cell? ⟨b, o, none⟩ = some (.int .i64 x.1) ∧ w.cell? ⟨b, o + 1, none⟩ = some (.int .i64 x.2)
def Ivs.V (w : World) (a : Option Addr) (l : List Iv) : Prop := RowV 2 Iv.at w a l
theorem Iv.at.keep {w w' : World} {b o : Nat} {x : Iv} (hb : Below w.heap.size w w') (h : Iv.at w b o x) : Iv.at w' b o x := ⟨cell_keep hb h.1, cell_keep hb h.2⟩
theorem Ivs.V.keep {w w' : World} {a : Option Addr} {l : List Iv} (h : Ivs.V w a l) (hb : Below w.heap.size w w') : Ivs.V w' a l := RowV.keep (fun _ _ _ h => Iv.at.keep hb h) h
theorem flat_one {α : Type} {enc : α → List Value} (h : ∀ x, ∀ v ∈ enc x, v.oneCell' = true) (l : List α) : ∀ v ∈ l.flatMap enc, v.oneCell' = true := by
  intro v hv
  obtain ⟨x, _, hx⟩ := List.mem_flatMap.1 hv
  exact h x v hx
theorem row_news {α : Type} {enc : α → List Value} {k : Nat} {R : World → Nat → Nat → α → Prop} {w : World} {b off : Nat} {l : List α} (hk : ∀ x, (enc x).length = k) (hk0 : 0 < k)
    (hR : ∀ b o x, R w b o x → ∀ c u, (enc x)[c]? = some u → w.cell? ⟨b, o + c, none⟩ = some u) (h : RowV k R w (some ⟨b, off, none⟩) l) : ∀ j u, (l.flatMap enc)[j]? = some u → w.cell? ((⟨b, off, none⟩ : Addr).add j) = some u := by
  intro j u hj
  have hjl : j < l.length * k := by rw [← flat_len hk]; exact (List.getElem?_eq_some_iff.1 hj).1
  have h1 : j / k < l.length := Nat.div_lt_of_lt_mul (by rwa [Nat.mul_comm])
  have h2 : j % k < k := Nat.mod_lt _ hk0
  have e1 : j / k * k + j % k = j := by rw [Nat.mul_comm]; exact Nat.div_add_mod j k
  have e2 := flat_get hk h1 h2
  rw [e1, hj] at e2
  obtain ⟨b', off', ha, hat⟩ := h.at_ h1
  injection ha with ha
  injection ha with hb ho
  subst hb ho
  have := hR _ _ _ hat _ _ e2.symm
  rw [addr_add, ← e1, ← Nat.add_assoc]
  exact this
theorem rect_cells {w : World} {b o : Nat} {x : Rect} (h : Rect.at w b o x) : ∀ c u, (cellsR x)[c]? = some u → w.cell? ⟨b, o + c, none⟩ = some u := by
  obtain ⟨h0, h1, h2, h3, -⟩ := h
  intro c u hc
  match c, hc with
  | 0, hc => simp [cellsR] at hc; subst hc; simpa using h0
  | 1, hc => simp [cellsR] at hc; subst hc; exact h1
  | 2, hc => simp [cellsR] at hc; subst hc; exact h2
  | 3, hc => simp [cellsR] at hc; subst hc; exact h3
  | c + 4, hc => simp [cellsR] at hc
theorem rectAt_of {w : World} {b o : Nat} {x : Rect} (hw : x.wf) (h : ∀ c u, (cellsR x)[c]? = some u → w.cell? ⟨b, o + c, none⟩ = some u) : Rect.at w b o x :=
  ⟨h 0 _ rfl, h 1 _ rfl, h 2 _ rfl, h 3 _ rfl, hw⟩
theorem ivAt_of {w : World} {b o : Nat} {x : Iv} (h : ∀ c u, (cellsI x)[c]? = some u → w.cell? ⟨b, o + c, none⟩ = some u) : Iv.at w b o x := ⟨h 0 _ rfl, h 1 _ rfl⟩
theorem own_slice {w : World} {base e k n : Nat} {v : Value} {xs : List Value} (h : w.ownsRow base e k v n xs) : ∃ a c, v = .slice a n c ∧ n ≤ c ∧ c ≤ 9223372036854775807 := by
  rcases h.2 with ⟨rfl, rfl⟩ | ⟨g, cap, cur, rfl, _, _, h1, h2, _⟩
  · exact ⟨none, 0, rfl, Nat.le_refl _, by omega⟩
  · exact ⟨_, cap, rfl, h1, h2⟩
theorem own_mono {w : World} {base base' e k n : Nat} {v : Value} {xs : List Value} (h : w.ownsRow base e k v n xs) (hb : base' ≤ base) : w.ownsRow base' e k v n xs := by
  refine ⟨h.1, ?_⟩
  rcases h.2 with h0 | ⟨g, cap, cur, e1, h1, h2⟩
  · exact .inl h0
  · exact .inr ⟨g, cap, cur, e1, by omega, h2⟩

set_option maxRecDepth 100000 in
set_option maxHeartbeats 2000000 in
theorem cloneRect_any (a : Option Addr) (l : List Rect) (c : Nat) (w : World) (hv : Rects.V w a l) (hl : l.length ≤ 1000) :
    Calls Try.prog 119 #[.slice a l.length c] w fun e w' => ∃ v', e = .returned v' ∧ w'.ownsRow w.heap.size 55 4 v' l.length (l.flatMap cellsR) ∧ Below w.heap.size w w' := by
  obtain ⟨i0, hi0, hz0, hz1, hz2⟩ := info_parts rect_info
  have q22 : ∀ (w : World) (a : Option Addr) (n c n' c' : Nat), (binOp .eql 23 (.slice a n c) (.slice none n' c')).run Try.prog w = .ok (.bool a.isNone) w := fun w a n c n' c' => Lib.run_eql_slice_nil w _ _ a n c n' c' Try.underlying23
  cases a with
  | none =>
    have hl0 : l = [] := by
      cases l with
      | nil => rfl
      | cons x l => obtain ⟨_, _, h, _⟩ := hv (by simp); cases h
    subst hl0
    go_enter Try.func119, Try.ntmps119
    go_wp2_with fail
    go_ret
    exact ⟨_, rfl, ⟨rfl, .inl ⟨rfl, rfl⟩⟩, Below.refl _ _⟩
  | some ad =>
    have hnews : ∀ j u, (l.flatMap cellsR)[j]? = some u → w.cell? (ad.add j) = some u := by
      intro j u hj
      cases l with
      | nil => simp at hj
      | cons x l =>
        obtain ⟨b, off, h, _⟩ := hv (by simp)
        injection h with h
        subst h
        exact row_news cellsR_len (by decide) (fun _ _ _ h => rect_cells h) hv j u hj
    have A : Aside (∀ j u, (l.flatMap cellsR)[j]? = some u → w.cell? (ad.add j) = some u) := hnews
    clear hnews hv
    go_enter Try.func119, Try.ntmps119
    go_wp2_with (at_builtin; refine wpList_append_own _ rfl _ _ 23 rfl w.heap.size 55 i0 (.agg #[.int .i64 0, .int .i64 0, .int .i64 0, .int .i64 0]) 4 32 Try.underlying23 hi0 hz0 hz1 hz2 rfl (by decide) _ 0 [] rfl (World.ownsRow_made w #[] 0 (Nat.le_refl _) (Nat.zero_le _) rfl) ad l.length c (l.flatMap cellsR) rfl (flat_len cellsR_len l) (fun j u hj => Lib.cell?_alloc_some _ (A.out j u hj)) (flat_one cellsR_one l) (by simp only [maxLen]; omega) (by omega) (by simp) ?_; intro v' w1 hown hgr hnil)
    go_ret
    exact ⟨v', rfl, by simpa using hown, ((Below.refl _ w).alloc (Nat.le_refl _) _).grown hgr (by simp) (by intro k hk; injection hk with hk; exact Nat.le_of_eq hk)⟩

/-! The sort of rectangles by their beginning. -/
abbrev BR : Type := {x : Rect // -1000000 ≤ x.x1 ∧ x.x1 ≤ 1000000}
instance : Inhabited BR := ⟨⟨⟨0, 0, 0, 0⟩, by decide⟩⟩
def encBR (x : BR) : List Value := cellsR x.1
def cmpBR (x y : BR) : Int := x.1.x1 - y.1.x1
theorem ltBR (x y : BR) : ltOf cmpBR x y = decide (x.1.x1 < y.1.x1) := by
  unfold ltOf cmpBR
  by_cases h1 : x.1.x1 < y.1.x1
  · simp [h1]; omega
  · simp [h1]; omega
theorem swoBR : Go.Sort.SWO (ltOf cmpBR) where
  irrefl x := by rw [ltBR]; simp
  trans x y z h1 h2 := by rw [ltBR] at *; simp at *; omega
  ntrans x y z h1 h2 := by rw [ltBR] at *; simp at *; omega
set_option maxHeartbeats 1000000 in
theorem clear1_any (x y : BR) (w : World) :
    Calls Try.prog 121 #[.agg (encBR x).toArray, .agg (encBR y).toArray] w fun e w' => e = .returned (.int .i64 (cmpBR x y)) ∧ ∃ q os', w' = Go.Sort.grow (w.drewN q) os' := by
  obtain ⟨x, hx1, hx2⟩ := x
  obtain ⟨y, hy1, hy2⟩ := y
  show Calls Try.prog 121 #[.agg #[.int .i64 x.x1, .int .i64 x.y1, .int .i64 x.x2, .int .i64 x.y2], .agg #[.int .i64 y.x1, .int .i64 y.y1, .int .i64 y.x2, .int .i64 y.y2]] w fun e w' => e = .returned (.int .i64 (x.x1 - y.x1)) ∧ ∃ q os', w' = Go.Sort.grow (w.drewN q) os'
  go_enter Try.func121, Try.ntmps121
  go_wp2_with fail
  go_ret
  exact ⟨rfl, 0, _, by rw [Go.Sort.alloc_eq_grow, Go.Sort.alloc_eq_grow, Go.Sort.grow_grow]; rfl⟩
theorem cmpLaysBR (blk off size : Nat) (w : World) : CmpLays Try.prog 121 #[] encBR 4 cmpBR blk off size w := fun _ _ _ _ x y => by
  have h := clear1_any x y
  simpa using h _
theorem lift_sub {α : Type} {p : α → Prop} {l : List α} (h : ∀ x ∈ l, p x) : ∃ L : List {x // p x}, L.map (·.1) = l :=
  ⟨l.pmap Subtype.mk h, by rw [List.map_pmap]; simp⟩
theorem flat_sub {α : Type} {p : α → Prop} {enc : α → List Value} (L : List {x // p x}) : L.flatMap (fun x => enc x.1) = (L.map (·.1)).flatMap enc := by rw [List.flatMap_map]
theorem sortRect_any (base : Nat) (v : Value) (n : Nat) (l : List Rect) (w : World) (h : w.ownsRow base 55 4 v n (l.flatMap cellsR)) (hb : ∀ d ∈ l, -1000000 ≤ d.x1 ∧ d.x1 ≤ 1000000) (hl : l.length ≤ 1000) (hbase : base ≤ w.heap.size) :
    Calls Try.prog 120 #[v, .func (.func 121) #[] #[]] w fun e w' => e = .returned (.tuple #[]) ∧ ∃ r : List Rect, r.Perm l ∧ r.Pairwise (fun c d => c.x1 ≤ d.x1) ∧ w'.ownsRow base 55 4 v n (r.flatMap cellsR) ∧ Below base w w' := by
  have eg : ∀ args w, (callFunc 121 args).run Try.prog w = .ok (.enter 121 args) w := enters_of Try.func121 (by kernel_rfl) rfl
  have hn := own_len cellsR_len (by decide) h
  by_cases hne : l = []
  · subst hne
    obtain ⟨a, c, rfl, _, _⟩ := own_slice h
    simp only [List.length_nil] at hn
    subst hn
    exact (AnyF.slices_SortFunc_none Try.sortRect a c _ w).mono fun e w' ⟨he, hw⟩ => ⟨he, [], List.Perm.refl _, List.Pairwise.nil, by rw [hw]; exact h, by rw [hw]; exact Below.refl _ _⟩
  · obtain ⟨L, rfl⟩ := lift_sub hb
    have hL : L ≠ [] := by rintro rfl; simp at hne
    have h' : w.ownsRow base 55 4 v n (L.flatMap encBR) := by rw [show L.flatMap encBR = (L.map (·.1)).flatMap cellsR from flat_sub L]; exact h
    obtain ⟨g, cap, rfl, hbg, hg, hnl, hH⟩ := holdsK_of_own (enc := encBR) (fun x => rfl) h' hL (by decide)
    have hcon := AnyQ.slices_SortFunc Try.sortRect 4 Try.isAgg55 Try.sizeOf55 encBR (fun _ => rfl) (fun x v hv => cellsR_one x.1 v hv) cmpBR swoBR 121 #[] g 0 cap L.toArray w eg (cmpLaysBR g 0 L.toArray.size w) hH hg (by simp at hl ⊢; omega)
    have hnl' : L.toArray.size = n := by simp [hnl]
    rw [hnl'] at hcon
    refine hcon.mono fun e w' ⟨he, d', m, os, hp, hs, hw⟩ => ?_
    rw [← hnl'] at hp hs
    obtain ⟨hd, hperm⟩ := perm_of_permIn hp
    have hsrt := pairwise_of_sorted (by simpa using hd.symm) hs
    refine ⟨he, d'.toList.map (·.1), ?_, ?_, ?_, ?_⟩
    · have := hperm.map (·.1); simpa using this
    · rw [List.pairwise_map]
      exact hsrt.imp fun {x y} hxy => by rw [ltBR] at hxy; simpa using hxy
    · rw [← flat_sub, hw]
      exact own_sorted (enc := encBR) (fun _ => rfl) (by decide) h' (by rw [hd, hnl'])
    · rw [hw]
      exact below_sorted (Below.refl _ _) hbg hg hbase
end Go.Proofs.Ythhchnhidhgccaa
