/- The sawn desk, the greedy plan of a small job, the species of blanks. -/
import Derived.Test.YtoelfalmmaddlaaGreatTRP
import Derived.Test.YtoelfalmmaddlaaGreatGB
import Derived.Test.YtoelfalmmaddlaaGreatPLX
import Derived.Test.YtoelfalmmaddlaaGreatJob7
import Derived.Test.YtoelfalmmaddlaaGreatBK
import Derived.Test.YtoelfalmmaddlaaGreatBC
set_option linter.unusedVariables false
set_option linter.unusedSimpArgs false
namespace Go.Proofs.YtoelfalmmaddlaaGreat
open Go Go.ChangeShapes Go.WideShapes Go.ChangeAt Go.RowKit
theorem sawn_any (w : World) : Calls Tryz.prog 4 #[] w fun e w' => e = .returned (.bool true) ∧ Below w.heap.size w w' := by
 go_enter Tryz.func4, Tryz.ntmps4
 go_upto_region 3 with (first
  | (go_at_call 17; refine (desk_any _).mono ?_; rintro e w1 ⟨a1, c1, a2, c2, rfl, hs, hb, hbw⟩; have HS := Lib.hid hs; have HB := Lib.hid hb; have HB1 := Lib.hid hbw; clear hs hb hbw)
  | (go_at_call 9; refine (deskGreedy_any a1 c1 a2 c2 _ HS.out HB.out).mono ?_; rintro e w2 ⟨a3, c3, rfl, hbw⟩; have HB2 := Lib.hid (HB1.out.trans (hbw.mono HB1.out.size)); clear hbw)
  | (go_at_call 18; refine (deskLeast_any _ _ _ (intsV_keep (ints_new2 _ _ _ _ _ (by simp)) ((Below.refl _ _).alloc (Nat.le_refl _) _)) (ints_new3 _ _ _ _ _ _ (by simp))).mono ?_; rintro e w4 ⟨rfl, hbw⟩; have HB4 := Lib.hid (((HB2.out.alloc HB2.out.size _).alloc (by have := HB2.out.size; simp; omega) _).trans (hbw.mono (by have := HB2.out.size; simp; omega))); clear hbw))
 go_wp2_with fail
 go_ret
 exact ⟨rfl, HB4.out⟩
theorem planE_ok {j : Job} (h : jobE j = 0) : planE j = greedyM j.stock j.blanks j.trim := by unfold planE; rw [if_neg (by simp [h])]
theorem small_few {j : Job} (hs : smallB j = true) (h : jobE j = 0) : j.blanks.length < 20 := by
 have hp := (jobOk_of h).lenB
 have hl := smallB_lens hs
 unfold smallL at hl
 omega
theorem small_bd {j : Job} (hs : smallB j = true) (h : jobE j = 0) : j.stock.length ≤ 4 ∧ j.blanks.length ≤ 5 ∧ ∀ x ∈ j.blanks, x.count ≤ 6 := by
 have hJ := jobOk_of h
 have hp := hJ.lenB
 have hq := hJ.lenS
 have hl := smallB_lens hs
 unfold smallL at hl
 refine ⟨by omega, by omega, fun x hx => ?_⟩
 unfold smallB at hs
 rw [Bool.and_eq_true, Bool.and_eq_true] at hs
 have hb := List.all_eq_true.1 hs.2.2 x hx
 unfold blankSm at hb
 rw [Bool.not_eq_true', Bool.eq_false_iff] at hb
 simp only [ne_eq, Bool.or_eq_true, Bool.and_eq_true, decide_eq_true_eq] at hb
 have := (hJ.want x hx).2
 omega
end Go.Proofs.YtoelfalmmaddlaaGreat
/- The species of blanks: a row of texts. -/
set_option linter.unusedVariables false
set_option linter.unusedSimpArgs false
namespace Go.Proofs.YtoelfalmmaddlaaGreat
open Go Go.ChangeShapes Go.WideShapes Go.ChangeAt Go.RowKit Go.Sort Go.Lib

def TxV (w : World) (a : Option Addr) (l : List ByteArray) : Prop := l ≠ [] → ∃ b off, a = some ⟨b, off, none⟩ ∧ ∀ k x, l[k]? = some x → w.cell? ⟨b, off + k, none⟩ = some (.string x)
theorem own_txV {w : World} {base e n c : Nat} {a : Option Addr} {l : List ByteArray} (h : w.ownsRow base e 1 (.slice a n c) n (l.map Value.string)) : TxV w a l := by
 intro hne
 have hn : l.length = n := by have := h.1; simpa using this
 obtain ⟨g, cp, hv, -, -⟩ := own_some h (by have := List.length_pos_iff.2 hne; omega)
 injection hv with e1 _ e3
 subst e1; subst e3
 refine ⟨g, 0, rfl, fun k x hk => ?_⟩
 have := h.cells (g := g) rfl k (.string x) (by simp [hk])
 rwa [addr_add] at this
theorem string_info : (Tryz.prog.info? 9).map (fun i => (i.zero, i.size, i.bytes)) = some (some (.string ⟨#[]⟩), 1, 16) := by kernel_rfl
def HasQ (w : World) (e : Ending) (w' : World) : Prop := ∃ q : Bool, e = .returned (.bool q) ∧ Below w.heap.size w w'
def KindsQ (w : World) (e : Ending) (w' : World) : Prop := ∃ (av : Option Addr) (n cv : Nat), e = .returned (.slice av n cv) ∧ Below w.heap.size w w'
set_option maxHeartbeats 1000000 in
theorem hasText_any (a : Option Addr) (l : List ByteArray) (c : Nat) (s : ByteArray) (w : World) (hv : TxV w a l) (hl : l.length ≤ 1000000) :
    Calls Tryz.prog 22 #[.slice a l.length c, .string s] w (HasQ w) := by
 go_enter Tryz.func22, Tryz.ntmps22
 go_wp2_with fail
 go_loopw [5] (fun iv wr => ∃ k : Nat, k ≤ l.length ∧ iv = .int .i64 k ∧ Below w.heap.size w wr) (fun iv _ => l.length - (intOf iv).toNat)
 case atStart => exact ⟨0, Nat.zero_le _, rfl, Below.refl _ _⟩
 case round =>
  obtain ⟨k, hk, rfl, hb⟩ := hrel
  have HB := Lib.hid hb
  by_cases hlt : k < l.length
  ·obtain ⟨b, off, ha, hx⟩ := hv (by intro e; subst e; simp at hlt)
   subst ha
   have c0 := cell_keep hb (hx k _ (List.getElem?_eq_getElem hlt))
   have hki : (k : Int) < (l.length : Int) := by omega
   have v1 : IntKind.i64.wrap ((k : Int) + 1) = (k : Int) + 1 := IntWalk.i64_in _ (by omega)
   clear hx hb
   generalize l[k] = x at *
   cases hq : (x.toList == s.toList)
   ·go_wp2_with fail
    go_roundw
    case rel => exact ⟨k + 1, by omega, by go_num, HB.out⟩
    case measure => first | (simp [intOf]; done) | (simp [intOf]; omega)
   ·go_wp2_with fail
    go_ret
    exact ⟨true, rfl, HB.out⟩
  ·obtain rfl : k = l.length := by omega
   have hki : ¬ ((l.length : Nat) : Int) < ((l.length : Nat) : Int) := by omega
   go_wp2_with fail
   go_ret
   exact ⟨false, rfl, HB.out⟩
set_option maxRecDepth 100000 in
set_option maxHeartbeats 4000000 in
theorem kinds_len (a : Option Addr) (l : List Blank) (c : Nat) (w : World) (hv : Blanks.V w a l) (hl : l.length ≤ 1000) :
    Calls Tryz.prog 8 #[.slice a l.length c] w (KindsQ w) := by
 obtain ⟨i0, hi0, hz0, hz1, hz2⟩ := info_parts string_info
 have HV := Lib.hid hv
 clear hv
 go_enter Tryz.func8, Tryz.ntmps8
 go_wp2_with fail
 go_loopw [3, 4] (fun v iv wr => ∃ (k : Nat) (xs : List ByteArray), k ≤ l.length ∧ iv = .int .i64 k ∧ xs.length ≤ k ∧ Hid (wr.ownsRow w.heap.size 9 1 v xs.length (xs.map Value.string)) ∧ Below w.heap.size w wr) (fun _ iv _ => l.length - (intOf iv).toNat)
 case atStart => exact ⟨0, [], Nat.zero_le _, rfl, Nat.zero_le _, Lib.hid (World.ownsRow_nil _ _ _ _), Below.refl _ _⟩
 case round =>
  obtain ⟨k, xs, hk, rfl, hxk, HO, hb⟩ := hrel
  obtain ⟨av, cv, rfl, -, -⟩ := own_slice HO.out
  have HB := Lib.hid hb
  have hzw := hb.size
  by_cases hlt : k < l.length
  ·obtain ⟨b, off, ha, hx⟩ := (HV.out.keep hb).at_ hlt
   obtain ⟨s0, s1, s2, s3, s4, s5, -⟩ := hx
   subst ha
   have hki : (k : Int) < (l.length : Int) := by omega
   have v1 : IntKind.i64.wrap ((k : Int) + 1) = (k : Int) + 1 := IntWalk.i64_in _ (by omega)
   have HS := Lib.hid s1
   generalize l[k].species = sp at *
   go_upto_if 18 with (go_at_call 22; refine (hasText_any av xs cv _ _ (own_txV HO.out) (by omega)).mono ?_; rintro e w2 ⟨q, rfl, hb2⟩; have HB2 := Lib.hid hb2; clear hb2)
   have HO2 := Lib.hid (own_keep HO.out HB2.out)
   have s1 := cell_keep HB2.out HS.out
   have hzz := HB2.out.size
   clear hb s0 s2 s3 s4 s5
   cases q
   ·go_wp2_with (at_builtin; refine wpList_append_here _ rfl _ _ 33 rfl w.heap.size 9 i0 (.string ⟨#[]⟩) 1 16 Tryz.underlying33 hi0 hz0 hz1 hz2 rfl (by decide) _ xs.length _ rfl (own_keep HO2.out ((Below.refl _ _).alloc (Nat.le_refl _) _)) ⟨w2.heap.size, 0, none⟩ 1 1 [.string sp] rfl rfl (news_of [.string sp] _ _ _ rfl) (by intro u hu; rw [List.mem_singleton.1 hu]; rfl) (by decide) (by simp only [maxLen]; omega) (by omega) (by simp; omega) ?_; intro v8 w8 ho8 hg8 hv8; have HO8 := Lib.hid ho8; have HG8 := Lib.hid hg8; clear ho8 hg8 hv8)
    go_roundw
    case rel =>
     refine ⟨k + 1, xs ++ [sp], by omega, by go_num, by simp; omega, Lib.hid ?_, ?_⟩
     ·rw [List.length_append, List.map_append]; exact HO8.out
     ·exact (((HB.out.trans (HB2.out.mono HB.out.size))).alloc (by omega) _).grown HG8.out (by simp; omega) (fun q hq => own_base HO.out hq)
    case measure => first | (simp [intOf]; done) | (simp [intOf]; omega)
   ·go_wp2_with fail
    go_roundw
    case rel => exact ⟨k + 1, xs, by omega, by go_num, by omega, HO2, HB.out.trans (HB2.out.mono HB.out.size)⟩
    case measure => first | (simp [intOf]; done) | (simp [intOf]; omega)
  ·obtain rfl : k = l.length := by omega
   have hki : ¬ ((l.length : Nat) : Int) < ((l.length : Nat) : Int) := by omega
   go_wp2_with fail
   go_ret
   exact ⟨_, _, _, rfl, HB.out⟩
end Go.Proofs.YtoelfalmmaddlaaGreat
/- What the law of rows works with: the box of crosscuts, its rows, Crosscut's answer in one shape. -/
set_option linter.unusedVariables false
set_option linter.unusedSimpArgs false
namespace Go.Proofs.YtoelfalmmaddlaaGreat
open Go Go.RowKit Go.Sort Go.Lib
theorem back_len {st ln : List Int} {kerf : Int} (hk : 0 ≤ kerf) (hd : dp (ordF st) ln kerf (2 ^ ln.length - 1) ≠ nev (ordF st)) : (back (ordF st) ln kerf (2 ^ ln.length - 1) (2 ^ ln.length - 1)).length = ln.length := by
 have hB := back_ok (ordF st) ln kerf hk _ _ (Nat.le_refl (2 ^ ln.length - 1)) hd
 have h1 : ((back (ordF st) ln kerf (2 ^ ln.length - 1) (2 ^ ln.length - 1)).map (·.2)).Perm (List.range ln.length) := (List.perm_ext_iff_of_nodup hB.nodup List.nodup_range).2 fun x => by
  rw [hB.mem, Nat.testBit_two_pow_sub_one, List.mem_range]; simp
 have := h1.length_eq
 simpa using this
theorem rows_len {st ln : List Int} {kerf : Int} (hk : 0 ≤ kerf) (hln : ln.length ≤ 20) (hd : dp (ordF st) ln kerf (2 ^ ln.length - 1) ≠ nev (ordF st)) {rows : List (List Nat)} (hr : RowsPerm rows (layR (longM st) (back (ordF st) ln kerf (2 ^ ln.length - 1) (2 ^ ln.length - 1)) (List.replicate st.length []))) : ∀ r ∈ rows, r.length ≤ 20 := by
 intro r h
 obtain ⟨b, hb, rfl⟩ := List.mem_iff_getElem.1 h
 have h0 : b < st.length := by have := hr.1; rw [layR_len, List.length_replicate] at this; omega
 have h1 := hr.2 b (by rw [layR_len]; simpa using h0)
 rw [List.getD_eq_getElem?_getD, List.getElem?_eq_getElem hb, layR_get (by simpa using h0)] at h1
 have h2 := h1.length_eq
 simp only [Option.getD_some] at h2
 rw [h2, List.length_append, List.length_map]
 have h3 := back_len hk hd
 have h4 := List.length_filter_le (fun p => (longM st).getD p.1 0 == b) (back (ordF st) ln kerf (2 ^ ln.length - 1) (2 ^ ln.length - 1))
 have h5 : ((List.replicate st.length ([] : List Nat)).getD b []).length = 0 := by rw [List.getD_eq_getElem?_getD, List.getElem?_replicate, if_pos h0]; rfl
 omega
/-- Crosscut's answer, as one shape. -/
structure CrossFacts (st ln : List Int) (kerf : Int) (rows : List (List Nat)) (E : Int) : Prop where
 err : crossE st ln kerf ≠ 0 → E = crossE st ln kerf ∧ rows = []
 no : crossE st ln kerf = 0 → dp (ordF st) ln kerf (2 ^ ln.length - 1) = nev (ordF st) → E = 12 ∧ rows = []
 yes : crossE st ln kerf = 0 → dp (ordF st) ln kerf (2 ^ ln.length - 1) ≠ nev (ordF st) → E = 0 ∧ rows.length = st.length ∧ (∀ r ∈ rows, r.length ≤ 20) ∧ assignM st ln kerf (rows.map fun r => r.map fun i : Nat => (i : Int)) = (((dp (ordF st) ln kerf (2 ^ ln.length - 1)).bars : Int), 0)
def CrossOut (w : World) (st ln : List Int) (kerf : Int) (e : Ending) (w' : World) : Prop := ∃ (av : Option Addr) (cv : Nat) (rows : List (List Nat)) (E : Int), e = .returned (.tuple #[.slice av rows.length cv, .int .i64 E]) ∧ Listss.V w' av (rows.map fun r => r.map fun i : Nat => (i : Int)) ∧ Below w.heap.size w w' ∧ CrossFacts st ln kerf rows E
theorem cross_out {w w' : World} {st ln : List Int} {kerf : Int} {e : Ending} (h : CrossPost w st ln kerf e w') : CrossOut w st ln kerf e w' := by
 obtain ⟨hb, h | h | h⟩ := h
 ·obtain ⟨h1, rfl⟩ := h
  exact ⟨none, 0, [], _, rfl, fun hne => absurd rfl hne, hb, fun _ => ⟨rfl, rfl⟩, fun h => absurd h h1, fun h => absurd h h1⟩
 ·obtain ⟨h1, h2, rfl⟩ := h
  exact ⟨none, 0, [], _, rfl, fun hne => absurd rfl hne, hb, fun h => absurd h1 h, fun _ _ => ⟨rfl, rfl⟩, fun _ h => absurd h2 h⟩
 ·obtain ⟨h1, h2, a, c, rows, h3, h4, rfl, h5⟩ := h
  obtain ⟨⟨s10, l10⟩, hs, hl, hk⟩ := cross_ok h1
  have hlen : rows.length = st.length := by have := h3.1; rw [layR_len, List.length_replicate] at this; exact this
  exact ⟨a, c, rows, 0, rfl, h5, hb, fun h => absurd h1 h, fun _ h => absurd h h2, fun _ _ => ⟨rfl, hlen, rows_len hk.1 (by omega) h2 h3, back_rows (long_perm st) hk.1 h1 (fun m hm => by have := hs m hm; omega) h2 h3 h4⟩⟩
theorem crosscut_out (a1 a2 : Option Addr) (st ln : List Int) (c1 c2 : Nat) (kerf : Int) (w : World) (hv1 : IntsV w a1 st) (hv2 : IntsV w a2 ln) (hl1 : st.length ≤ 100000) (hl2 : ln.length ≤ 100000) :
    Calls Tryz.prog 16 #[.agg #[.slice a1 st.length c1, .slice a2 ln.length c2, .int .i64 kerf]] w (CrossOut w st ln kerf) := (crosscut_any a1 a2 st ln c1 c2 kerf w hv1 hv2 hl1 hl2).mono fun _ _ h => cross_out h
theorem planPost2_out {w w' : World} {pb pl x1 y1 x2 y2 E : Int} {e : Ending} (h : PlanPost2 w (⟨pb, pl, ⟨x1, y1, x2, y2⟩⟩, E) e w') : e = .returned (.tuple #[.agg #[.int .i64 pb, .int .i64 pl, .int .i64 x1, .int .i64 y1, .int .i64 x2, .int .i64 y2], .int .i64 E]) ∧ Below w.heap.size w w' := h

theorem own_intsV9 {w : World} {base e n cv : Nat} {av : Option Addr} {l : List Int} (h : w.ownsRow base e 1 (.slice av n cv) n (l.map (Value.int .i64))) : IntsV w av l := by
 intro hne
 have hn : l.length = n := by have := h.1; simpa using this
 obtain ⟨g, cp, hv, -, -⟩ := own_some h (by have := List.length_pos_iff.2 hne; omega)
 injection hv with e1 _ e3
 subst e1; subst e3
 exact own_intsV1 h hne
abbrev slotI (a : Addr) (xs : List Int) : Slot := ⟨some a, 3, 1, xs.map (Value.int .i64)⟩
def KerfSt (g : Nat) (kerf : Int) (a : Addr) (v : Value) : Prop := a = ⟨g, 2, none⟩ ∧ v = .int .i64 kerf
theorem desk_cross {w : World} {g : Nat} {kerf : Int} (h0 : w.cell? ⟨g, 0, none⟩ = some (.slice none 0 0)) (h1 : w.cell? ⟨g, 1, none⟩ = some (.slice none 0 0)) (h2 : w.cell? ⟨g, 2, none⟩ = some (.int .i64 kerf)) (f0 : w.frozen? ⟨g, 0, none⟩ = false) (f1 : w.frozen? ⟨g, 1, none⟩ = false) :
    Desk w g [slotI ⟨g, 0, none⟩ [], slotI ⟨g, 1, none⟩ []] (KerfSt g kerf) := by
 have hx : ∀ {i : Nat} {t : Slot}, [slotI ⟨g, 0, none⟩ [], slotI ⟨g, 1, none⟩ []][i]? = some t → (i = 0 ∧ t = slotI ⟨g, 0, none⟩ []) ∨ (i = 1 ∧ t = slotI ⟨g, 1, none⟩ []) := by
  intro i t hi
  match i, hi with
  | 0, hi => injection hi with hi; exact .inl ⟨rfl, hi.symm⟩
  | 1, hi => injection hi with hi; exact .inr ⟨rfl, hi.symm⟩
 refine ⟨fun _ => .slice none 0 0, ⟨fun i t hi => ?_, fun i t a hi ha => ?_, fun i j t u a hi hj hij ha => ?_, fun i j t u q hi hj hij hg => (by cases hg), fun i j t u a hi hj ha e => (by cases e), fun a u hu => ?_⟩, fun i t a hi ha => ?_⟩
 ·rcases hx hi with ⟨rfl, rfl⟩ | ⟨rfl, rfl⟩ <;> exact ⟨0, World.ownsRow_nil _ _ _ _⟩
 ·rcases hx hi with ⟨rfl, rfl⟩ | ⟨rfl, rfl⟩ <;> (injection ha with ha; subst ha)
  ·exact ⟨rfl, Nat.le_refl _, f0, by rw [h0]; rfl⟩
  ·exact ⟨rfl, Nat.le_refl _, f1, by rw [h1]; rfl⟩
 ·rcases hx hi with ⟨rfl, rfl⟩ | ⟨rfl, rfl⟩ <;> rcases hx hj with ⟨rfl, rfl⟩ | ⟨rfl, rfl⟩ <;> (injection ha with ha; subst ha)
  ·exact absurd rfl hij
  ·intro e; injection e with e; injection e with _ e; cases e
  ·intro e; injection e with e; injection e with _ e; cases e
  ·exact absurd rfl hij
 ·obtain ⟨rfl, rfl⟩ := hu
  refine ⟨rfl, h2, fun i t hi => ⟨fun e => ?_, fun e => (by cases e)⟩⟩
  rcases hx hi with ⟨rfl, rfl⟩ | ⟨rfl, rfl⟩ <;> (injection e with e; injection e with _ e; cases e)
 ·rcases hx hi with ⟨rfl, rfl⟩ | ⟨rfl, rfl⟩ <;> (injection ha with ha; subst ha)
  ·exact h0
  ·exact h1
theorem Desk.join {w w1 : World} {base : Nat} {L L' : List Slot} {St St' : Addr → Value → Prop} (h : Desk w base L St) (hb : Below w.heap.size w w1) (h' : Desk w1 w.heap.size L' St') (hbase : base ≤ w.heap.size) (hst : ∀ a v, St' a v → w.heap.size ≤ a.block) : Desk w1 base (L ++ L') (fun a v => St a v ∨ St' a v) := by
 obtain ⟨V, h1, h2⟩ := h.ex
 obtain ⟨V', h3, h4⟩ := h'.ex
 refine ⟨_, h1.join hb h3 hbase hst, fun i s a hi ha => ?_⟩
 rcases app_get hi with ⟨q1, q2⟩ | ⟨q1, q2⟩
 ·rw [joinV_l q1]
  have := h2 i s a q2 ha
  rw [hb.cell (block_lt_of_cell this)]; exact this
 ·rw [joinV_r q1]
  exact h4 _ s a q2 ha
theorem desk_rows2 {w : World} {base g : Nat} {rows : List (List Nat)} {L0 : List Slot} {St : Addr → Value → Prop} (h : Desk w base (L0 ++ slotsN g 0 rows) St) (hb : ∀ r ∈ rows, ∀ x ∈ r, x ≤ 1000000) : Listss.V w (some ⟨g, 0, none⟩) (rows.map fun r => r.map fun i : Nat => (i : Int)) := by
 intro hne
 refine ⟨g, 0, rfl, fun i x hi => ?_⟩
 rw [List.getElem?_map, Option.map_eq_some_iff] at hi
 obtain ⟨r, hr, rfl⟩ := hi
 have hs := slotsN_get (g := g) (j := 0) hr
 have hs2 : (L0 ++ slotsN g 0 rows)[L0.length + i]? = some (slotN ⟨g, 0 + i, none⟩ r) := by
  rw [List.getElem?_append_right (by omega), show L0.length + i - L0.length = i by omega]; exact hs
 obtain ⟨v, n, h1, h2, h3, h4⟩ := h.row hs2 rfl
 rw [Nat.zero_add] at h1
 have hn : (r.map fun i : Nat => (i : Int)).length = n := by have := h3.1; simpa using this
 subst hn
 rw [Nat.mul_one, Nat.zero_add]
 rcases h3.2 with ⟨rfl, h0⟩ | ⟨g', cap, cur, rfl, q1, q2, q3, q4, -⟩
 ·refine ⟨none, 0, by rw [h1, h0], fun hne' => ?_, by omega, by unfold maxLen; omega⟩
  exact absurd (List.length_eq_zero_iff.1 h0) hne'
 ·refine ⟨some ⟨g', 0, none⟩, cap, h1, Intss.V.of (own_intsV1 h3) fun x hx => ?_, q3, q4⟩
  obtain ⟨y, hy, rfl⟩ := List.mem_map.1 hx
  have := hb r (List.mem_of_getElem? hr) y hy
  omega
/-- The usable lengths of boards. -/
def useL (j : Job) (b : Board) : Int := (usableR b j.trim).x2 - (usableR b j.trim).x1
/-- What the law looks at before it lays pieces in rows. -/
structure GoodT (j : Job) (b : Board) : Prop where
 form : rectErr (usableR b j.trim) = 0
 narrow : ∀ x ∈ j.blanks, ∀ y ∈ j.blanks, (usableR b j.trim).y2 - (usableR b j.trim).y1 < x.width + y.width + j.trim.kerf
end Go.Proofs.YtoelfalmmaddlaaGreat
/- Pieces of an accepted plan on narrow boards are a right assignment of crosscuts (plain). -/
set_option linter.unusedVariables false
set_option linter.unusedSimpArgs false
namespace Go.Proofs.YtoelfalmmaddlaaGreat
open Go

def lenP (p : Placed) : Int := p.at_.x2 - p.at_.x1
def brdP (p : Placed) : Nat := p.board.toNat
theorem zip_map {α β γ : Type} (f : α → β) (g : α → γ) : ∀ l : List α, (l.map f).zip (l.map g) = l.map fun x => (f x, g x)
 | [] => rfl
 | x :: l => by simp [zip_map f g l]
theorem good_st {j : Job} (hE : jobE j = 0) {b : Board} (hb : b ∈ j.stock) (h : GoodT j b) : 1 ≤ useL j b ∧ useL j b ≤ 600000 := by
 have hJ := jobOk_of hE
 have hs := hJ.size b hb
 have ht := hJ.trim
 have h1 := h.form
 unfold rectErr at h1
 split at h1
 ·cases h1
 ·rename_i hn
  have h2 : okR (usableR b j.trim) := okR_whole (by simp only; omega)
  unfold useL
  rcases h2 with h2 | h2
  ·rw [h2] at hn; simp at hn
  ·unfold proper at h2
   omega
theorem rows_right {j : Job} {plan : List Layout} (hp : (planE2 j plan).2 = 0) (hg : ∀ b ∈ j.stock, GoodT j b) (h5 : piecesN j.blanks ≤ 5) (hs4 : j.stock.length ≤ 10) :
    crossE (j.stock.map (useL j)) ((placesM j plan).map lenP) j.trim.kerf = 0 ∧ (∀ p ∈ placesM j plan, 0 ≤ p.board ∧ brdP p < j.stock.length) ∧ (placesM j plan).length ≤ 5 ∧
     ∀ b, b < j.stock.length → sumA j.trim.kerf b ((placesM j plan).map lenP) ((placesM j plan).map brdP) ≤ (j.stock.map (useL j)).getD b 0 + j.trim.kerf := by
 obtain ⟨hE, -⟩ := plan_parts hp
 obtain ⟨s1, s2, s3⟩ := plan_sound hp
 have hJ := jobOk_of hE
 have hkerf := hJ.trim.1
 generalize placesM j plan = P at *
 have hPl : P.length ≤ 5 := by omega
 have hblk : ∀ p ∈ P, bl j.blanks p.blank.toNat ∈ j.blanks := fun p hp => by
  have h := (s2 p hp).blank
  unfold bl
  rw [List.getD_eq_getElem?_getD, List.getElem?_eq_getElem (by omega)]
  exact List.getElem_mem _
 have hbrd : ∀ p ∈ P, 0 ≤ p.board ∧ brdP p < j.stock.length := fun p hp => by
  have h := (s2 p hp).board
  unfold brdP
  omega
 refine ⟨?_, hbrd, hPl, fun b hb => ?_⟩
 ·unfold crossE
  rw [if_neg (by simp only [List.length_map]; omega), if_neg, if_neg]
  ·unfold withinB; simp only [Bool.not_eq_false, Bool.and_eq_true, decide_eq_true_eq]; omega
  ·rw [Bool.not_eq_false, List.all_eq_true]
   intro x hx
   have hx2 : 1 ≤ x ∧ x ≤ 600000 := by
    rcases List.mem_append.1 hx with hx | hx
    ·obtain ⟨c, hc, rfl⟩ := List.mem_map.1 hx
     exact good_st hE hc (hg c hc)
    ·obtain ⟨p, hp', rfl⟩ := List.mem_map.1 hx
     have h := (s2 p hp').size.1
     have h2 := (hJ.want _ (hblk p hp')).1.1
     unfold lenP
     omega
   first | (unfold barOk withinB; simp only [Bool.and_eq_true, decide_eq_true_eq]; omega) | (unfold withinB; simp only [Bool.and_eq_true, decide_eq_true_eq]; omega)
 ·obtain ⟨I, hI⟩ : ∃ I : List (Int × Int), I = P.map fun p => (p.at_.x1, p.at_.x2) := ⟨_, rfl⟩
  have hln : P.map lenP = I.map fun p => p.2 - p.1 := by rw [hI, List.map_map]; rfl
  rw [hln, sumA_pack]
  have hzip : (((I.zip (P.map brdP)).filter fun q => q.2 == b).map (·.1)) = (P.filter fun p => brdP p == b).map fun p => (p.at_.x1, p.at_.x2) := by
   rw [hI, zip_map, List.filter_map, List.map_map]; rfl
  rw [hzip]
  have hbm : j.stock[b] ∈ j.stock := List.getElem_mem hb
  have hgb := hg _ hbm
  have hgd : ∀ p ∈ P, brdP p = b → j.stock.getD p.board.toNat default = j.stock[b] := fun p hp' e => by
   unfold brdP at e
   rw [e, List.getD_eq_getElem?_getD, List.getElem?_eq_getElem hb]; rfl
  have hst : (j.stock.map (useL j)).getD b 0 = useL j j.stock[b] := by
   rw [List.getD_eq_getElem?_getD, List.getElem?_map, List.getElem?_eq_getElem hb]; rfl
  have hst1 := good_st hE hbm hgb
  rw [hst]
  unfold useL at hst1 ⊢
  have hpk := pack (k := j.trim.kerf) (A := (usableR j.stock[b] j.trim).x1) hkerf.1 _ ((P.filter fun p => brdP p == b).map fun p => (p.at_.x1, p.at_.x2)) (usableR j.stock[b] j.trim).x2 rfl (by omega) (fun q hq => by
   obtain ⟨p, hp', rfl⟩ := List.mem_map.1 hq
   obtain ⟨hpP, hpb⟩ := List.mem_filter.1 hp'
   have hin := (s2 p hpP).inside
   rw [hgd p hpP (by simpa using hpb)] at hin
   have hsz := (s2 p hpP).size.1
   have hw := (hJ.want _ (hblk p hpP)).1.1
   unfold within at hin
   simp only
   omega) (by
   rw [List.pairwise_map]
   refine List.Pairwise.imp_of_mem (fun {p q} hp' hq' h => ?_) (List.Pairwise.filter _ s3)
   obtain ⟨hpP, hpb⟩ := List.mem_filter.1 hp'
   obtain ⟨hqP, hqb⟩ := List.mem_filter.1 hq'
   have hpb' : brdP p = b := by simpa using hpb
   have hqb' : brdP q = b := by simpa using hqb
   have hap := h (by have := hbrd p hpP; have := hbrd q hqP; unfold brdP at hpb' hqb'; have := (s2 p hpP).board; have := (s2 q hqP).board; omega)
   have hip := (s2 p hpP).inside
   have hiq := (s2 q hqP).inside
   rw [hgd p hpP hpb'] at hip
   rw [hgd q hqP hqb'] at hiq
   have hwp := (s2 p hpP).size.2
   have hwq := (s2 q hqP).size.2
   have hnar := hgb.narrow _ (hblk p hpP) _ (hblk q hqP)
   unfold within at hip hiq
   unfold apart at hap
   unfold apartK
   simp only
   omega)
  omega
end Go.Proofs.YtoelfalmmaddlaaGreat
/- The last stretch of the law of rows: what CheckCrosscut and Crosscut answer of the rows. -/
set_option linter.unusedVariables false
set_option linter.unusedSimpArgs false
namespace Go.Proofs.YtoelfalmmaddlaaGreat
open Go Go.RowKit

theorem items_lenT {b : Nat} : ∀ {asn : List Nat} {k : Nat}, (itemsL b asn k).length ≤ asn.length
 | [], k => by simp [itemsL]
 | a :: asn, k => by
  have h := items_lenT (b := b) (asn := asn) (k := k + 1)
  rw [itemsL, List.length_cons]
  split
  ·rw [List.length_cons]; omega
  ·omega
def CheckQ (n m : Nat) (w : World) (e : Ending) (w' : World) : Prop := e = .returned (.tuple #[.int .i64 (m : Int), .int .i64 0]) ∧ Below w.heap.size w w'
def BestQ (a0 a1 : Option Addr) (n l c0 c1 m : Nat) (kerf : Int) (w : World) (e : Ending) (w' : World) : Prop := ∃ (av : Option Addr) (cv : Nat), e = .returned (.tuple #[.slice av n cv, .int .i64 0]) ∧ Below w.heap.size w w' ∧ ∀ w3, Below w'.heap.size w' w3 → Calls Tryz.prog 15 #[.agg #[.slice a0 n c0, .slice a1 l c1, .int .i64 kerf], .slice av n cv] w3 (CheckQ n m w3)
theorem fin_facts {w : World} {g9 gR n : Nat} {kerf : Int} {st ln : List Int} {asn : List Nat} {St : Addr → Value → Prop} (hD : Desk w g9 ([slotI ⟨g9, 0, none⟩ st, slotI ⟨g9, 1, none⟩ ln] ++ slotsN gR 0 (rowsB n asn)) St) (hK : St ⟨g9, 2, none⟩ (.int .i64 kerf)) (hn : st.length = n) (hn4 : n ≤ 4) (ha5 : asn.length ≤ 5) (hc : crossE st ln kerf = 0) (hl : asn.length = ln.length) (ha : ∀ a ∈ asn, a < n) (hf : ∀ b, b < n → sumA kerf b ln asn ≤ st.getD b 0 + kerf) :
    ∃ (a0 a1 : Option Addr) (c0 c1 m : Nat), m ≤ cntR (rowsB n asn) ∧ w.cell? ⟨g9, 0, none⟩ = some (.slice a0 n c0) ∧ w.cell? ⟨g9, 1, none⟩ = some (.slice a1 ln.length c1) ∧ w.cell? ⟨g9, 2, none⟩ = some (.int .i64 kerf) ∧
     (∀ w', Below w.heap.size w w' → Calls Tryz.prog 15 #[.agg #[.slice a0 n c0, .slice a1 ln.length c1, .int .i64 kerf], .slice (some ⟨gR, 0, none⟩) n n] w' (CheckQ n (cntR (rowsB n asn)) w')) ∧
     (∀ w', Below w.heap.size w w' → Calls Tryz.prog 16 #[.agg #[.slice a0 n c0, .slice a1 ln.length c1, .int .i64 kerf]] w' (BestQ a0 a1 n ln.length c0 c1 m kerf w')) := by
 subst hn
 obtain ⟨v0, n0, hv0, -, ho0, -⟩ := hD.row (i := 0) rfl rfl
 obtain ⟨v1, n1, hv1, -, ho1, -⟩ := hD.row (i := 1) rfl rfl
 have e0 : n0 = st.length := by have := ho0.1; simpa using this.symm
 have e1 : n1 = ln.length := by have := ho1.1; simpa using this.symm
 subst e0
 subst e1
 obtain ⟨a0, c0, rfl, -, -⟩ := own_slice ho0
 obtain ⟨a1, c1, rfl, -, -⟩ := own_slice ho1
 have i0 : IntsV w a0 st := own_intsV9 ho0
 have i1 : IntsV w a1 ln := own_intsV9 ho1
 obtain ⟨hst, hlim, hln⟩ : (∀ x ∈ st, 1 ≤ x ∧ x ≤ 600000) ∧ ln.length ≤ 10 ∧ (∀ x ∈ ln, 1 ≤ x ∧ x ≤ 600000) := by
  obtain ⟨q1, q2, q3, -⟩ := cross_ok hc
  exact ⟨q2, by omega, q3⟩
 have s0 : Intss.V w a0 st := Intss.V.of i0 fun x hx => by have := hst x hx; omega
 have s1 : Intss.V w a1 ln := Intss.V.of i1 fun x hx => by have := hln x hx; omega
 have hrow : ∀ r ∈ rowsB st.length asn, r.length ≤ 20 ∧ ∀ x ∈ r, x ≤ 1000000 := fun r hr => by
  unfold rowsB at hr
  obtain ⟨b, hb, rfl⟩ := List.mem_map.1 hr
  refine ⟨by have := items_lenT (b := b) (asn := asn) (k := 0); omega, fun x hx => ?_⟩
  have := (items_mem.1 hx).2.1
  omega
 have hL := desk_rows2 hD fun r hr => (hrow r hr).2
 obtain ⟨b1, b2, b3⟩ := rows_bars hc hl ha hf
 refine ⟨a0, a1, c0, c1, (dp (lenF st (longM st)) ln kerf (2 ^ ln.length - 1)).bars, b3, hv0, hv1, hD.cell hK, fun w' hb => ?_, fun w' hb => ?_⟩
 ·have h := checkBarsP_any a0 a1 (some ⟨gR, 0, none⟩) st ln ((rowsB st.length asn).map fun r => r.map fun i : Nat => (i : Int)) c0 c1 st.length kerf w' (s0.keep hb) (s1.keep hb) (hL.keep hb) (by omega) (by omega) (by rw [List.length_map, rowsB_len]; omega) (fun x hx => by obtain ⟨r, hr, rfl⟩ := List.mem_map.1 hx; rw [List.length_map]; exact (hrow r hr).1)
  rw [b1, List.length_map, rowsB_len] at h
  exact h
 ·refine (crosscut_out a0 a1 st ln c0 c1 kerf w' (intsV_keep i0 hb) (intsV_keep i1 hb) (by omega) (by omega)).mono ?_
  rintro e w2 ⟨av, cv, rows, E, rfl, hv, hb2, hF⟩
  obtain ⟨rfl, g1, g2, g3⟩ := hF.yes hc b2
  refine ⟨av, cv, by rw [g1], hb2, fun w3 hb3 => ?_⟩
  have h := checkBarsP_any a0 a1 av st ln (rows.map fun r => r.map fun i : Nat => (i : Int)) c0 c1 cv kerf w3 (s0.keep (hb.trans ((hb2.trans (hb3.mono hb2.size)).mono hb.size))) (s1.keep (hb.trans ((hb2.trans (hb3.mono hb2.size)).mono hb.size))) (hv.keep hb3) (by omega) (by omega) (by rw [List.length_map]; omega) (fun x hx => by obtain ⟨r, hr, rfl⟩ := List.mem_map.1 hx; rw [List.length_map]; exact g2 r hr)
  rw [g3, List.length_map, g1] at h
  exact h
end Go.Proofs.YtoelfalmmaddlaaGreat
