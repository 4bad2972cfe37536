/- An accepted plan: its pieces lie in the usable rectangles, on sound wood, a kerf apart; there are as many as are wanted. -/
import Derived.Test.YtdmoiepafkbefaaGreatPL3
import Derived.Test.YtdmoiepafkbefaaGreatTW
set_option linter.unusedVariables false
set_option linter.unusedSimpArgs false
namespace Go.Proofs.YtdmoiepafkbefaaGreat

theorem plan_parts {j : Job} {plan : List Layout} (h : (planE2 j plan).2 = 0) : jobE j = 0 ∧ layGo j plan [] = 0 ∧ (pieceGo j (placesM j plan) (List.replicate j.blanks.length 0)).1.2 = 0 ∧ countE j (pieceGo j (placesM j plan) (List.replicate j.blanks.length 0)).2 = 0 := by
  unfold planE2 at h
  split at h
  · rename_i h1; exact absurd h h1
  · rename_i h1
    unfold planOf at h
    split at h
    · rename_i h2; exact absurd h h2
    · rename_i h2
      split at h
      · rename_i h3; exact absurd h h3
      · rename_i h3
        exact ⟨by simpa using h1, by simpa using h2, by simpa using h3, h⟩

def dotL (cs : List Int) (f : Nat → Int) : Int := sumTo cs.length fun b => cs.getD b 0 * f b
def sumP (f : Nat → Int) : List Placed → Int
  | [] => 0
  | p :: r => f p.blank.toNat + sumP f r
theorem dotL_set {cs : List Int} {i : Nat} {x : Int} (f : Nat → Int) (h : i < cs.length) : dotL (cs.set i x) f = dotL cs f + (x - cs.getD i 0) * f i := by
  unfold dotL
  rw [List.length_set]
  have : sumTo cs.length (fun b => (cs.set i x).getD b 0 * f b) = sumTo cs.length (fun b => cs.getD b 0 * f b + (if b = i then (x - cs.getD i 0) * f i else 0)) := sumTo_congr fun b hb => by
    by_cases e : b = i
    · subst e
      rw [if_pos rfl, List.getD_eq_getElem?_getD, List.getElem?_set_self h, Int.sub_mul]
      simp
      omega
    · rw [if_neg e, List.getD_eq_getElem?_getD, List.getElem?_set_ne (fun e' => e e'.symm), List.getD_eq_getElem?_getD]; simp
  rw [this, sumTo_add, sumTo_one, if_pos h]
theorem pieceE_range {j : Job} {p : Placed} (h : pieceE j p = 0) : p.blank < (j.blanks.length : Int) := by
  unfold pieceE at h
  split at h
  · cases h
  · omega
theorem pieceGo_all {j : Job} (f : Nat → Int) : ∀ {P : List Placed} {cs : List Int}, (pieceGo j P cs).1.2 = 0 → cs.length = j.blanks.length → (∀ p ∈ P, 0 ≤ p.blank) →
    (∀ p ∈ P, pieceE j p = 0) ∧ (pieceGo j P cs).2.length = cs.length ∧ dotL (pieceGo j P cs).2 f = dotL cs f + sumP f P
  | [], cs, _, _, _ => ⟨fun p hp => absurd hp (by simp), rfl, by simp [pieceGo, sumP]⟩
  | p :: P, cs, h, hl, hb => by
    unfold pieceGo at h ⊢
    split at h
    · rename_i h1; exact absurd h h1
    · rename_i h1
      rw [if_neg h1]
      have h1 : pieceE j p = 0 := by simpa using h1
      have hr := pieceE_range h1
      have h0 := hb p (by simp)
      obtain ⟨g1, g2, g3⟩ := pieceGo_all f h (by rw [List.length_set]; exact hl) (fun q hq => hb q (List.mem_cons_of_mem _ hq))
      refine ⟨fun q hq => ?_, by rw [g2, List.length_set], ?_⟩
      · rcases List.mem_cons.1 hq with rfl | hq
        · exact h1
        · exact g1 q hq
      · rw [g3, dotL_set f (by omega)]
        simp only [sumP]
        rw [show cs.getD p.blank.toNat 0 + 1 - cs.getD p.blank.toNat 0 = 1 by omega, Int.one_mul]
        omega
theorem zip_any {cs ns : List Int} {q : Int × Int → Bool} (h : (cs.zip ns).any q = false) {i : Nat} (h1 : i < cs.length) (h2 : i < ns.length) : q (cs[i], ns[i]) = false := by
  have h3 : (cs[i], ns[i]) ∈ cs.zip ns := by
    have h4 : i < (cs.zip ns).length := by rw [List.length_zip]; omega
    have h5 := List.getElem_mem h4
    rwa [List.getElem_zip] at h5
  have h6 := List.any_eq_false.1 h _ h3
  simpa using h6
theorem countE_all {j : Job} {cs : List Int} (h : countE j cs = 0) (hl : cs.length = j.blanks.length) {b : Nat} (hb : b < j.blanks.length) : cs.getD b 0 = j.blanks[b].count := by
  unfold countE at h
  split at h
  · cases h
  · rename_i h1
    split at h
    · cases h
    · rename_i h2
      have hc : b < cs.length := by omega
      have hn : b < (countsOf j).length := by unfold countsOf; rw [List.length_map]; exact hb
      have e1 := zip_any (show lowB cs (countsOf j) = false by simpa using h1) hc hn
      have e2 := zip_any (show highB cs (countsOf j) = false by simpa using h2) hc hn
      have e3 : (countsOf j)[b] = j.blanks[b].count := by simp only [countsOf, List.getElem_map]
      rw [e3] at e1 e2
      rw [List.getD_eq_getElem?_getD, List.getElem?_eq_getElem hc]
      simp only [decide_eq_false_iff_not] at e1 e2
      simp only [Option.getD_some]
      omega
theorem sumTo_shift (f : Nat → Int) : ∀ n, sumTo (n + 1) f = f 0 + sumTo n fun i => f (i + 1)
  | 0 => by simp [sumTo]
  | n + 1 => by
    rw [sumTo, sumTo_shift f n]
    simp only [sumTo]
    omega
theorem pieces_sum : ∀ (l : List Blank), sumTo l.length (fun b => (bl l b).count) = piecesN l
  | [] => rfl
  | x :: l => by
    rw [List.length_cons, sumTo_shift, piecesN, ← pieces_sum l]
    rfl
theorem sumP_one : ∀ (P : List Placed), sumP (fun _ => 1) P = P.length
  | [] => rfl
  | p :: P => by rw [sumP, sumP_one P, List.length_cons]; omega

theorem piecesTo_at {l : Layout} {R : List Rect} : ∀ {k : Nat} {p : Placed}, p ∈ piecesTo l R k → ∃ i, i < k ∧ isPieceC (l.cuts.getD i default) = true ∧ p = ⟨l.board, (l.cuts.getD i default).blank, R.getD i default⟩
  | 0, p, h => absurd h (by simp [piecesTo])
  | k + 1, p, h => by
    rw [piecesTo, List.mem_append] at h
    rcases h with h | h
    · obtain ⟨i, h1, h2⟩ := piecesTo_at h
      exact ⟨i, by omega, h2⟩
    · split at h
      · rename_i hc
        exact ⟨k, by omega, hc, by simpa using h⟩
      · simp at h
theorem piecesTo_apart {l : Layout} {R : List Rect} {X : Rect → Rect → Prop} {n : Nat} (hX : ∀ i k, i < k → k < n → isPieceC (l.cuts.getD i default) = true → isPieceC (l.cuts.getD k default) = true → X (R.getD i default) (R.getD k default)) :
    ∀ k, k ≤ n → (piecesTo l R k).Pairwise fun p q => X p.at_ q.at_
  | 0, _ => by simp [piecesTo]
  | k + 1, hk => by
    rw [piecesTo, List.pairwise_append]
    refine ⟨piecesTo_apart hX k (by omega), ?_, fun p hp q hq => ?_⟩
    · split <;> simp
    · split at hq
      · rename_i hc
        obtain ⟨i, h1, h2, rfl⟩ := piecesTo_at hp
        obtain rfl : q = _ := by simpa using hq
        exact hX i k h1 (by omega) h2 hc
      · simp at hq
theorem placesTo_at {j : Job} {plan : List Layout} : ∀ {k : Nat} {p : Placed}, p ∈ placesTo j plan k → ∃ m, m < k ∧ p ∈ piecesTo (plan.getD m default) (layOf j (plan.getD m default)).1 (plan.getD m default).cuts.length
  | 0, p, h => absurd h (by simp [placesTo])
  | k + 1, p, h => by
    rw [placesTo, List.mem_append] at h
    rcases h with h | h
    · obtain ⟨m, h1, h2⟩ := placesTo_at h
      exact ⟨m, by omega, h2⟩
    · exact ⟨k, by omega, h⟩
theorem piecesTo_board {l : Layout} {R : List Rect} {k : Nat} {p : Placed} (h : p ∈ piecesTo l R k) : p.board = l.board ∧ 0 ≤ p.blank := by
  obtain ⟨i, -, h2, rfl⟩ := piecesTo_at h
  refine ⟨rfl, ?_⟩
  unfold isPieceC at h2
  simp only [Bool.and_eq_true, decide_eq_true_eq] at h2
  exact h2.2
theorem layGo_apart {j : Job} : ∀ {plan : List Layout} {used : List Int}, layGo j plan used = 0 → (∀ l ∈ plan, l.board ∉ used) ∧ plan.Pairwise fun a b => a.board ≠ b.board
  | [], _, _ => ⟨fun l h => absurd h (by simp), List.Pairwise.nil⟩
  | l :: plan, used, h => by
    unfold layGo at h
    split at h
    · cases h
    · split at h
      · cases h
      · rename_i h2
        split at h
        · rename_i h3; exact absurd h h3
        · obtain ⟨g1, g2⟩ := layGo_apart h
          refine ⟨fun x hx => ?_, List.pairwise_cons.2 ⟨fun x hx e => g1 x hx (by rw [← e]; exact List.mem_append_right _ (List.mem_singleton.2 rfl)), g2⟩⟩
          rcases List.mem_cons.1 hx with rfl | hx
          · exact h2
          · exact fun hu => g1 x hx (List.mem_append_left _ hu)
theorem placesTo_apart {j : Job} {plan : List Layout} {X : Rect → Rect → Prop} (hb : plan.Pairwise fun a b => a.board ≠ b.board)
    (hX : ∀ m, m < plan.length → ∀ i k, i < k → k < (plan.getD m default).cuts.length → isPieceC ((plan.getD m default).cuts.getD i default) = true → isPieceC ((plan.getD m default).cuts.getD k default) = true → X ((layOf j (plan.getD m default)).1.getD i default) ((layOf j (plan.getD m default)).1.getD k default)) :
    ∀ k, k ≤ plan.length → (placesTo j plan k).Pairwise fun p q => p.board = q.board → X p.at_ q.at_
  | 0, _ => by simp [placesTo]
  | k + 1, hk => by
    rw [placesTo, List.pairwise_append]
    refine ⟨placesTo_apart hb hX k (by omega), ?_, fun p hp q hq e => ?_⟩
    · exact List.Pairwise.imp (fun {a b} h (_ : a.board = b.board) => h) (piecesTo_apart (hX k (by omega)) _ (Nat.le_refl _))
    · obtain ⟨m, hm, hp⟩ := placesTo_at hp
      have e1 := (piecesTo_board hp).1
      have e2 := (piecesTo_board hq).1
      have h3 := List.pairwise_iff_getElem.1 hb m k (by omega) (by omega) hm
      rw [List.getD_eq_getElem?_getD, List.getElem?_eq_getElem (by omega : m < plan.length)] at e1
      rw [List.getD_eq_getElem?_getD, List.getElem?_eq_getElem (by omega : k < plan.length)] at e2
      simp only [Option.getD_some] at e1 e2
      exact absurd (by rw [← e1, ← e2]; exact e) h3
theorem whole_real (r : Rect) : wholeR r = zeroR ∨ ((wholeR r).x1 < (wholeR r).x2 ∧ (wholeR r).y1 < (wholeR r).y2) := by
  unfold wholeR
  by_cases h : r.x2 ≤ r.x1 ∨ r.y2 ≤ r.y1
  · rw [if_pos h]; exact .inl rfl
  · rw [if_neg h]; exact .inr (by omega)
theorem sound_zero {b : Board} {x : Blank} {r : Rect} (h : pieceOn b x r = 0) : kindOk b x = true ∧ (r.x2 - r.x1 = x.length ∧ r.y2 - r.y1 = x.width) ∧ soundB b.defects r = true := by
  unfold pieceOn at h
  split at h
  · cases h
  · rename_i h1
    split at h
    · cases h
    · rename_i h2
      split at h
      · cases h
      · rename_i h3
        exact ⟨by simpa using h1, Decidable.not_not.1 h2, by simpa using h3⟩

structure PieceIn (j : Job) (p : Placed) : Prop where
  board : 0 ≤ p.board ∧ p.board < j.stock.length
  blank : 0 ≤ p.blank ∧ p.blank < j.blanks.length
  kind : kindOk (j.stock.getD p.board.toNat default) (bl j.blanks p.blank.toNat) = true
  size : p.at_.x2 - p.at_.x1 = (bl j.blanks p.blank.toNat).length ∧ p.at_.y2 - p.at_.y1 = (bl j.blanks p.blank.toNat).width
  sound : soundB (j.stock.getD p.board.toNat default).defects p.at_ = true
  inside : within p.at_ (usableR (j.stock.getD p.board.toNat default) j.trim)
theorem getD_rect (R : List Rect) (i : Nat) : R.getD i default = rectF R i := rfl

theorem plan_sound {j : Job} {plan : List Layout} (h : (planE2 j plan).2 = 0) :
    ((placesM j plan).length : Int) = piecesN j.blanks ∧ (∀ p ∈ placesM j plan, PieceIn j p) ∧ (placesM j plan).Pairwise fun p q => p.board = q.board → apart j.trim.kerf p.at_ q.at_ := by
  obtain ⟨hE, hlay, hpc, hcnt⟩ := plan_parts h
  have hJ := jobOk_of hE
  have hok := layGo_ok hlay
  have hkerf := hJ.trim.1.1
  have hpos : ∀ p ∈ placesM j plan, 0 ≤ p.blank := fun p hp => by
    obtain ⟨m, -, hp⟩ := placesTo_at hp
    exact (piecesTo_board hp).2
  have hmem : ∀ m, m < plan.length → plan.getD m default ∈ plan := fun m hm => by
    rw [List.getD_eq_getElem?_getD, List.getElem?_eq_getElem hm]; exact List.getElem_mem hm
  obtain ⟨g1, g2, -⟩ := pieceGo_all (fun _ => 1) hpc (by simp) hpos
  have hsum := (pieceGo_all (fun _ => 1) hpc (by simp) hpos).2.2
  have hgeo : ∀ m, m < plan.length → _ := fun m hm => reg_apart (u := usableR (j.stock.getD (plan.getD m default).board.toNat default) j.trim) (whole_real _) hkerf (hok _ (hmem m hm)).2
  have hin : ∀ p ∈ placesM j plan, PieceIn j p := fun p hp => by
    have he := g1 p hp
    have hr := pieceE_range he
    have h0 := hpos p hp
    unfold pieceE at he
    rw [if_neg (by omega)] at he
    obtain ⟨e1, e2, e3⟩ := sound_zero he
    obtain ⟨m, hm, hp'⟩ := placesTo_at hp
    obtain ⟨i, hi, hc, rfl⟩ := piecesTo_at hp'
    refine ⟨(hok _ (hmem m hm)).1, ⟨h0, hr⟩, e1, e2, e3, ?_⟩
    rcases (hgeo m hm).1 i hi with e | e
    · exfalso
      have hw := hJ.want (bl j.blanks ((plan.getD m default).cuts.getD i default).blank.toNat) (by
        unfold bl
        have hlt : ((plan.getD m default).cuts.getD i default).blank.toNat < j.blanks.length := by simp only at hr h0; omega
        rw [List.getD_eq_getElem?_getD, List.getElem?_eq_getElem hlt]
        exact List.getElem_mem hlt)
      have e4 := e2.1
      simp only at e4
      rw [getD_rect, show rectF (layOf j (plan.getD m default)).1 i = zeroR from e] at e4
      unfold zeroR at e4
      simp only at e4
      omega
    · exact e
  refine ⟨?_, hin, ?_⟩
  · rw [sumP_one] at hsum
    have hz : dotL (List.replicate j.blanks.length 0) (fun _ => 1) = 0 := by
      unfold dotL
      rw [List.length_replicate]
      rw [sumTo_congr (g := fun _ => 0) (fun b hb => by simp [List.getD_eq_getElem?_getD, List.getElem?_replicate, hb])]
      exact sumTo_zero _
    rw [hz] at hsum
    have hd : dotL (pieceGo j (placesM j plan) (List.replicate j.blanks.length 0)).2 (fun _ => 1) = piecesN j.blanks := by
      unfold dotL
      have hl : (pieceGo j (placesM j plan) (List.replicate j.blanks.length 0)).2.length = j.blanks.length := by rw [g2]; simp
      rw [hl, ← pieces_sum]
      refine sumTo_congr fun b hb => ?_
      rw [countE_all hcnt hl hb]
      unfold bl
      rw [List.getD_eq_getElem?_getD, List.getElem?_eq_getElem hb]
      simp
    omega
  · have := placesTo_apart (j := j) (X := fun a b => a = zeroR ∨ b = zeroR ∨ apart j.trim.kerf a b) (layGo_apart hlay).2 (fun m hm i k hik hk hi hc => by
      unfold isPieceC at hi hc
      simp only [Bool.and_eq_true, decide_eq_true_eq] at hi hc
      exact (hgeo m hm).2 i k (by omega) hk (by omega) hi.1 hc.1) plan.length (Nat.le_refl _)
    refine List.Pairwise.imp_of_mem (fun {p q} hp hq hpq e => ?_) this
    have ip := (hin p hp).inside
    have iq := (hin q hq).inside
    rcases hpq e with e1 | e1 | e1
    · rw [e1] at ip; unfold within zeroR at ip; simp only at ip; omega
    · rw [e1] at iq; unfold within zeroR at iq; simp only at iq; omega
    · exact e1
end Go.Proofs.YtdmoiepafkbefaaGreat
