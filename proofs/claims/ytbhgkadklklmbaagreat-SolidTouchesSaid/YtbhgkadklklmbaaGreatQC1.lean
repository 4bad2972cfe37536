/- Contacts: what the program finds is what the document says, and the other way round the same (plain). -/
import Derived.Test.YtbhgkadklklmbaaGreatQD
import Derived.Test.YtbhgkadklklmbaaGreatQI
set_option linter.unusedVariables false
set_option linter.unusedSimpArgs false
namespace Go.Proofs.YtbhgkadklklmbaaGreat

/-- A contact. -/
structure Tch where
 a : Nat
 b : Nat
 p : Pl
 cs : List Co
def onP (cs : List Co) (p : Pl) : Bool := cs.all fun x => decide (sd p x = 0)
def tchB (c d : List Pl) : Bool := decide (3 ≤ (corn (c ++ d)).length) && !insid (c ++ d) (corn (c ++ d))
def tchP (c d : List Pl) : Option Pl := (nf c).find? (onP (corn (c ++ d)))
/-- What the program finds of two cells. -/
def tchK (i k : Nat) (c d : List Pl) : List Tch := if tchB c d = true then (match tchP c d with | some p => [⟨i, k, p, corn (c ++ d)⟩] | none => []) else []
def tchJ (X Y : List (List Pl)) (i n : Nat) : List Tch := (List.range n).flatMap fun k => tchK i k (X.getD i []) (Y.getD k [])
def tchI (X Y : List (List Pl)) (n : Nat) : List Tch := (List.range n).flatMap fun i => tchJ X Y i Y.length
def tchM (X Y : List (List Pl)) : List Tch := tchI X Y X.length
theorem tchJ_succ (X Y : List (List Pl)) (i n : Nat) : tchJ X Y i (n + 1) = tchJ X Y i n ++ tchK i n (X.getD i []) (Y.getD n []) := by unfold tchJ; rw [List.range_succ, List.flatMap_append]; simp
theorem tchI_succ (X Y : List (List Pl)) (n : Nat) : tchI X Y (n + 1) = tchI X Y n ++ tchJ X Y n Y.length := by unfold tchI; rw [List.range_succ, List.flatMap_append]; simp
/-- The document's plane: the last one on which all corners lie. -/
def tchL (cs : List Co) (l : List Pl) : Pl := l.foldl (fun q p => if onP cs p = true then p else q) p0
def tchR (i k : Nat) (c d : List Pl) : List Tch := if tchB c d = true then [⟨i, k, tchL (corn (c ++ d)) (nf c), corn (c ++ d)⟩] else []
theorem onP_iff {cs : List Co} {p : Pl} : onP cs p = true ↔ ∀ x ∈ cs, EE p x = 0 := by
 unfold onP
 rw [List.all_eq_true]
 refine forall_congr' fun x => imp_congr_right fun _ => ?_
 rw [decide_eq_true_iff]
 unfold sd EE
 rw [cmpI_zero]
 omega
theorem foldl_last {l : List Pl} {cs : List Co} {p : Pl} (hu : ∀ q ∈ l, onP cs q = true → q = p) : ∀ q0, l.foldl (fun q p => if onP cs p = true then p else q) q0 = if l.any (onP cs) = true then p else q0 := by
 induction l with
 | nil => intro q0; simp
 | cons x l ih =>
  intro q0
  rw [List.foldl_cons, ih (fun q hq => hu q (List.mem_cons_of_mem _ hq)), List.any_cons]
  by_cases h : onP cs x = true
  ·have e := hu x (List.mem_cons_self) h
   subst e
   simp [h]
  ·simp [h]
theorem cont_of {c d : List Pl} (hc : Sol c) (hd : Sol d) (h : tchB c d = true) : Cont c d := by
 unfold tchB at h
 simp only [Bool.and_eq_true, decide_eq_true_eq, Bool.not_eq_true'] at h
 exact ⟨hc, hd, h.1, h.2⟩
theorem tchP_of {c d : List Pl} (h : Cont c d) : ∃ p, tchP c d = some p ∧ tchL (corn (c ++ d)) (nf c) = p ∧ tchP d c = some (opp p) := by
 obtain ⟨p, hp, hon, hu, hp2, hon2, hu2⟩ := contact h
 have e := app_corn h.one.ray h.two.ray
 have find : ∀ (l : List Pl) (cs : List Co) (p : Pl), p ∈ l → onP cs p = true → (∀ q ∈ l, onP cs q = true → q = p) → l.find? (onP cs) = some p := by
  intro l cs p hp hon hu
  cases hf : l.find? (onP cs) with
  | none => exact absurd hon (by simpa using List.find?_eq_none.1 hf p hp)
  | some q => rw [hu q (List.mem_of_find?_eq_some hf) (List.find?_some hf)]
 refine ⟨p, find _ _ p hp (onP_iff.2 hon) fun q hq hq2 => hu q hq (onP_iff.1 hq2), ?_, ?_⟩
 ·unfold tchL
  rw [foldl_last (p := p) fun q hq hq2 => hu q hq (onP_iff.1 hq2), if_pos (List.any_eq_true.2 ⟨p, hp, onP_iff.2 hon⟩)]
 ·unfold tchP
  rw [← e]
  exact find _ _ (opp p) hp2 (onP_iff.2 hon2) fun q hq hq2 => hu2 q hq (onP_iff.1 hq2)
theorem tchR_eq {i k : Nat} {c d : List Pl} (hc : Sol c) (hd : Sol d) : tchR i k c d = tchK i k c d := by
 unfold tchR tchK
 by_cases h : tchB c d = true
 ·obtain ⟨p, h1, h2, -⟩ := tchP_of (cont_of hc hd h)
  rw [if_pos h, if_pos h, h1, h2]
 ·rw [if_neg h, if_neg h]
theorem tchB_swap {c d : List Pl} (hc : Sol c) (hd : Sol d) : tchB d c = tchB c d := by
 unfold tchB
 rw [← app_corn hc.ray hd.ray, insid_swap]
theorem tchK_len {i k : Nat} {c d : List Pl} (hc : Sol c) (hd : Sol d) : (tchK i k c d).length = if tchB c d = true then 1 else 0 := by
 rw [← tchR_eq hc hd]; unfold tchR; split <;> rfl
def OkX (X : List (List Pl)) : Prop := ∀ c ∈ X, Sol c
theorem OkX.at_ {X : List (List Pl)} (h : OkX X) {i : Nat} (hi : i < X.length) : Sol (X.getD i []) := by
 rw [show X.getD i [] = X[i] by simp [List.getD, hi]]; exact h _ (List.getElem_mem hi)
def sumN (n : Nat) (f : Nat → Nat) : Nat := match n with | 0 => 0 | n + 1 => sumN n f + f n
theorem sumN_congr {n : Nat} {f g : Nat → Nat} (h : ∀ k < n, f k = g k) : sumN n f = sumN n g := by
 induction n with
 | zero => rfl
 | succ n ih => unfold sumN; rw [ih (fun k hk => h k (by omega)), h n (by omega)]
theorem sumN_add (n : Nat) (f g : Nat → Nat) : sumN n (fun k => f k + g k) = sumN n f + sumN n g := by
 induction n with
 | zero => rfl
 | succ n ih => unfold sumN; rw [ih]; omega
theorem sumN_zero (n : Nat) : sumN n (fun _ => 0) = 0 := by induction n with | zero => rfl | succ n ih => unfold sumN; rw [ih]
theorem sumN_swap (n m : Nat) (f : Nat → Nat → Nat) : sumN n (fun i => sumN m (f i)) = sumN m (fun k => sumN n (fun i => f i k)) := by
 induction n with
 | zero => exact (sumN_zero m).symm
 | succ n ih =>
  rw [show sumN (n + 1) (fun i => sumN m (f i)) = sumN n (fun i => sumN m (f i)) + sumN m (f n) from rfl, ih, ← sumN_add]
  rfl
theorem flat_sum {α : Type} (g : Nat → List α) : ∀ n, ((List.range n).flatMap g).length = sumN n fun k => (g k).length
 | 0 => rfl
 | n + 1 => by rw [List.range_succ, List.flatMap_append, List.length_append, flat_sum g n, List.flatMap_cons, List.flatMap_nil, List.append_nil]; rfl
theorem tch_len_at {X Y : List (List Pl)} (hx : OkX X) (hy : OkX Y) : (tchM X Y).length = sumN X.length fun i => sumN Y.length fun k => if tchB (X.getD i []) (Y.getD k []) = true then 1 else 0 := by
 unfold tchM tchI
 rw [flat_sum]
 refine sumN_congr fun i hi => ?_
 unfold tchJ
 rw [flat_sum]
 exact sumN_congr fun k hk => tchK_len (hx.at_ hi) (hy.at_ hk)
theorem tch_len {X Y : List (List Pl)} (hx : OkX X) (hy : OkX Y) : (tchM Y X).length = (tchM X Y).length := by
 rw [tch_len_at hx hy, tch_len_at hy hx, sumN_swap]
 refine sumN_congr fun i hi => sumN_congr fun k hk => ?_
 rw [tchB_swap (hx.at_ hi) (hy.at_ hk)]
theorem mem_tchM {X Y : List (List Pl)} {t : Tch} : t ∈ tchM X Y ↔ ∃ i < X.length, ∃ k < Y.length, t ∈ tchK i k (X.getD i []) (Y.getD k []) := by
 unfold tchM tchI tchJ
 simp only [List.mem_flatMap, List.mem_range]
/-- Each contact is found the other way round. -/
theorem tch_back {X Y : List (List Pl)} (hx : OkX X) (hy : OkX Y) {t : Tch} (ht : t ∈ tchM X Y) : ∃ u ∈ tchM Y X, u.a = t.b ∧ u.b = t.a ∧ u.p = opp t.p ∧ u.cs = t.cs := by
 obtain ⟨i, hi, k, hk, h⟩ := mem_tchM.1 ht
 have hc := hx.at_ hi
 have hd := hy.at_ hk
 unfold tchK at h
 split at h
 ·rename_i hb
  obtain ⟨p, h1, -, h3⟩ := tchP_of (cont_of hc hd hb)
  rw [h1] at h
  simp only [List.mem_singleton] at h
  subst h
  refine ⟨⟨k, i, opp p, corn (Y.getD k [] ++ X.getD i [])⟩, mem_tchM.2 ⟨k, hk, i, hi, ?_⟩, rfl, rfl, rfl, (app_corn hc.ray hd.ray).symm⟩
  unfold tchK
  rw [if_pos (by rw [tchB_swap hc hd]; exact hb), h3]
  exact List.mem_singleton.2 rfl
 ·simp at h
def refJ (X Y : List (List Pl)) (i n : Nat) : List Tch := (List.range n).flatMap fun k => tchR i k (X.getD i []) (Y.getD k [])
def refI (X Y : List (List Pl)) (n : Nat) : List Tch := (List.range n).flatMap fun i => refJ X Y i Y.length
theorem refJ_succ (X Y : List (List Pl)) (i n : Nat) : refJ X Y i (n + 1) = refJ X Y i n ++ tchR i n (X.getD i []) (Y.getD n []) := by unfold refJ; rw [List.range_succ, List.flatMap_append]; simp
theorem refI_succ (X Y : List (List Pl)) (n : Nat) : refI X Y (n + 1) = refI X Y n ++ refJ X Y n Y.length := by unfold refI; rw [List.range_succ, List.flatMap_append]; simp
theorem flat_congr {α : Type} {n : Nat} {f g : Nat → List α} (h : ∀ k < n, f k = g k) : (List.range n).flatMap f = (List.range n).flatMap g := by
 induction n with
 | zero => rfl
 | succ n ih => rw [List.range_succ, List.flatMap_append, List.flatMap_append, ih (fun k hk => h k (by omega)), List.flatMap_cons, List.flatMap_cons, h n (by omega)]; simp
theorem refI_eq {X Y : List (List Pl)} (hx : OkX X) (hy : OkX Y) : refI X Y X.length = tchM X Y := by
 unfold tchM refI tchI
 refine flat_congr fun i hi => ?_
 unfold refJ tchJ
 exact flat_congr fun k hk => tchR_eq (hx.at_ hi) (hy.at_ hk)
end Go.Proofs.YtbhgkadklklmbaaGreat
/- Rows of contacts. -/
set_option linter.unusedVariables false
set_option linter.unusedSimpArgs false
namespace Go.Proofs.YtbhgkadklklmbaaGreat
open Go Go.RowKit Go.Sort Go.Lib

theorem contactInfo : (Tryz.prog.info? 66).map (fun i => (i.zero, i.size, i.bytes)) = some (some (.agg #[.int .i64 0, .int .i64 0, .int .i64 0, .int .i64 0, .int .i64 0, .int .i64 0, .slice none 0 0]), 7, 72) := by kernel_rfl
/-- A contact in memory. -/
structure TR where
 t : Tch
 ca : Option Addr
 cc : Nat
def cellsTR (r : TR) : List Value := [.int .i64 (r.t.a : Int), .int .i64 (r.t.b : Int), .int .i64 r.t.p.a, .int .i64 r.t.p.b, .int .i64 r.t.p.c, .int .i64 r.t.p.d, .slice r.ca r.t.cs.length r.cc]
theorem cellsTR_len (r : TR) : (cellsTR r).length = 7 := rfl
theorem cellsTR_one (r : TR) : ∀ v ∈ cellsTR r, v.oneCell' = true := by
 intro v hv
 simp only [cellsTR, List.mem_cons, List.not_mem_nil, or_false] at hv
 rcases hv with rfl | rfl | rfl | rfl | rfl | rfl | rfl <;> rfl
/-- A contact's corners lie in memory, outside of the row. -/
structure TRok (base : Nat) (w : World) (v : Value) (r : TR) : Prop where
 cos : Cos.V w r.ca r.t.cs
 bk : ∀ b, blk r.ca = some b → base ≤ b ∧ b < w.heap.size ∧ v.ownBlock ≠ some b
 i : ∀ c ∈ r.t.cs, c.in_
 n : r.t.cs.length ≤ 500000
theorem TRok.keep {base : Nat} {w w' : World} {v : Value} {r : TR} (h : TRok base w v r) (hb : Below w.heap.size w w') : TRok base w' v r :=
 ⟨h.cos.keep hb, fun b e => ⟨(h.bk b e).1, Nat.lt_of_lt_of_le (h.bk b e).2.1 hb.size, (h.bk b e).2.2⟩, h.i, h.n⟩
/-- A row of contacts under way. -/
structure TcSt (base : Nat) (w : World) (v : Value) (L : List TR) : Prop where
 o : w.ownsRow base 66 7 v L.length (L.flatMap cellsTR)
 p : ∀ q ∈ L, TRok base w v q
theorem TcSt.keep {base : Nat} {w w' : World} {v : Value} {L : List TR} (h : TcSt base w v L) (hb : Below w.heap.size w w') : TcSt base w' v L := ⟨own_keep h.o hb, fun q hq => (h.p q hq).keep hb⟩
theorem TcSt.nil {base : Nat} {w : World} : TcSt base w (.slice none 0 0) [] := ⟨⟨rfl, .inl ⟨rfl, rfl⟩⟩, fun q hq => absurd hq (by simp)⟩
theorem TcSt.mono {base base' : Nat} {w : World} {v : Value} {L : List TR} (h : TcSt base w v L) (hz : base' ≤ base) : TcSt base' w v L := ⟨own_mono h.o hz, fun q hq => ⟨(h.p q hq).cos, fun b e => ⟨Nat.le_trans hz ((h.p q hq).bk b e).1, ((h.p q hq).bk b e).2⟩, (h.p q hq).i, (h.p q hq).n⟩⟩
theorem TcSt.put {base : Nat} {w w' : World} {v v' : Value} {L : List TR} {q : TR} (h : TcSt base w v L) (hg : w.grownBy w' v.ownBlock) (hv : v'.ownBlock = v.ownBlock ∨ v'.ownBlock = some w.heap.size) (hq : TRok base w v q)
    (ho : w'.ownsRow base 66 7 v' (L ++ [q]).length ((L ++ [q]).flatMap cellsTR)) : TcSt base w' v' (L ++ [q]) := by
 refine ⟨ho, fun r hr => ?_⟩
 have key : ∀ r : TR, TRok base w v r → TRok base w' v' r := fun r hr =>
  ⟨hr.cos.grown hg fun b e => fun e' => (hr.bk b e).2.2 e', fun b e => ⟨(hr.bk b e).1, Nat.lt_of_lt_of_le (hr.bk b e).2.1 hg.size, fun e' => by
   rcases hv with h1 | h1
   ·exact (hr.bk b e).2.2 (by rw [← h1]; exact e')
   ·rw [h1] at e'; injection e' with e'; have := (hr.bk b e).2.1; omega⟩, hr.i, hr.n⟩
 rcases List.mem_append.1 hr with hr | hr
 ·exact key r (h.p r hr)
 ·simp only [List.mem_singleton] at hr; subst hr; exact key _ hq
end Go.Proofs.YtbhgkadklklmbaaGreat
/- The program's contacts of two solids. -/
set_option linter.unusedVariables false
set_option linter.unusedSimpArgs false
namespace Go.Proofs.YtbhgkadklklmbaaGreat
open Go Go.RowKit Go.Sort Go.Lib

theorem any_onP (cs : List Co) (p : Pl) : (cs.any fun c => !decide (sd p c = 0)) = !onP cs p := by
 unfold onP
 rw [List.all_eq_not_any_not]
 simp
theorem find_drop {P : Pl → Bool} {l : List Pl} {m : Nat} (hm : m < l.length) : (l.drop m).find? P = if P l[m] = true then some l[m] else (l.drop (m + 1)).find? P := by
 rw [List.drop_eq_getElem_cons hm, List.find?_cons]
 cases P l[m] <;> rfl
def tchT (cs : List Co) (i k : Nat) (o : Option Pl) : List Tch := match o with | some p => [⟨i, k, p, cs⟩] | none => []
theorem tchK_no {i k : Nat} {c d : List Pl} (h : tchB c d = false) : tchK i k c d = [] := by unfold tchK; rw [h]; rfl
theorem tchK_yes {i k : Nat} {c d : List Pl} (h : tchB c d = true) : tchK i k c d = tchT (corn (c ++ d)) i k ((nf c).find? (onP (corn (c ++ d)))) := by unfold tchK; rw [if_pos h]; rfl
theorem solM_ins {c d : List Pl} (h : 3 ≤ (corn (c ++ d)).length) : solM (c ++ d) = insid (c ++ d) (corn (c ++ d)) := by
 refine solM_eq fun e => ?_
 rw [e] at h
 exact absurd h (by decide)
/-- What the loop over the other cells keeps: a body, its normal form. -/
structure TcK (g11 g12 : Nat) (p : BR) (na : Option Addr) (nc : Nat) (N : List Pl) (v : Value) (W : World) : Prop where
 a : W.cell? ⟨g11, 0, none⟩ = some (.slice p.pa p.ps.length p.pc)
 b : W.cell? ⟨g11, 1, none⟩ = some (.slice p.ca (corn p.ps).length p.cc)
 c : W.cell? ⟨g12, 0, none⟩ = some (.slice na N.length nc)
 n : Pls.V W na N
 o1 : v.ownBlock ≠ some g11
 o2 : v.ownBlock ≠ some g12
 o3 : ∀ b, blk na = some b → b < W.heap.size ∧ v.ownBlock ≠ some b
theorem TcK.keep {g11 g12 : Nat} {p : BR} {na : Option Addr} {nc : Nat} {N : List Pl} {v : Value} {W W' : World} (h : TcK g11 g12 p na nc N v W) (hb : Below W.heap.size W W') : TcK g11 g12 p na nc N v W' :=
 ⟨cell_keep hb h.a, cell_keep hb h.b, cell_keep hb h.c, h.n.keep hb, h.o1, h.o2, fun b e => ⟨Nat.lt_of_lt_of_le (h.o3 b e).1 hb.size, (h.o3 b e).2⟩⟩
theorem TcK.grown {g11 g12 : Nat} {p : BR} {na : Option Addr} {nc : Nat} {N : List Pl} {v v' : Value} {W W' : World} (h : TcK g11 g12 p na nc N v W) (hg : W.grownBy W' v.ownBlock) (hv : v'.ownBlock = v.ownBlock ∨ v'.ownBlock = some W.heap.size) : TcK g11 g12 p na nc N v' W' := by
 have h1 := block_lt_of_cell h.a
 have h2 := block_lt_of_cell h.c
 simp only at h1 h2
 have f : ∀ b, b < W.heap.size → v.ownBlock ≠ some b → v'.ownBlock ≠ some b := fun b hb hn => by
  rcases hv with e | e
  ·rw [e]; exact hn
  ·rw [e]; intro h; injection h with h; omega
 exact ⟨grown_cell hg h.a h.o1, grown_cell hg h.b h.o1, grown_cell hg h.c h.o2, h.n.grown hg fun b e => (h.o3 b e).2, f _ h1 h.o1, f _ h2 h.o2, fun b e => ⟨Nat.lt_of_lt_of_le (h.o3 b e).1 hg.size, f b (h.o3 b e).1 (h.o3 b e).2⟩⟩
def tchE (ca cb : List Cell) : List Tch := if twoE ca cb ≠ 0 then [] else tchM (ca.map (·.planes)) (cb.map (·.planes))
set_option maxRecDepth 100000 in
set_option maxHeartbeats 16000000 in
theorem touches_any (ca cb : List Cell) (a : Option Addr) (c : Nat) (b : Option Addr) (d : Nat) (w : World) (hcl : ca.length ≤ 9223372036854775807) (hv : Cells.V w a ca) (hpl : ∀ x ∈ ca, x.planes.length ≤ 1000000)
    (hdl : cb.length ≤ 9223372036854775807) (hu : Cells.V w b cb) (hql : ∀ x ∈ cb, x.planes.length ≤ 1000000) :
    Calls Tryz.prog 39 #[.agg #[.slice a ca.length c], .agg #[.slice b cb.length d]] w fun e w' => ∃ va vc L, e = .returned (.tuple #[.slice va L.length vc, .int .i64 (twoE ca cb)]) ∧ Hid (L.map (·.t) = tchE ca cb) ∧ TcSt w.heap.size w' (.slice va L.length vc) L ∧ Below w.heap.size w w' := by
 obtain ⟨i0, hi0, hz0, hz1, hzb⟩ := info_parts contactInfo
 have HT := Lib.hid (fun W (h : Below w.heap.size w W) => two_any ca cb a c b d W hcl (hv.keep h) hpl hdl (hu.keep h) hql)
 obtain ⟨O, hO⟩ : ∃ O, O = tchE ca cb := ⟨_, rfl⟩
 obtain ⟨T, hT⟩ : ∃ T, T = twoE ca cb := ⟨_, rfl⟩
 rw [← hO, ← hT]
 have HTE := Lib.hid hT
 clear hT
 have HO := Lib.hid (show O = if twoE ca cb ≠ 0 then [] else tchM (ca.map (·.planes)) (cb.map (·.planes)) from hO)
 clear hO
 obtain ⟨X, hX⟩ : ∃ X, X = ca.map (·.planes) := ⟨_, rfl⟩
 obtain ⟨Y, hY⟩ : ∃ Y, Y = cb.map (·.planes) := ⟨_, rfl⟩
 rw [← hX, ← hY] at HO
 have HZ := Lib.hid (twoE_zero (a := ca) (b := cb))
 have HX := Lib.hid hX
 have HY := Lib.hid hY
 clear hv hu hpl hql hcl hdl hX hY
 go_enter Tryz.func39, Tryz.ntmps39
 go_upto_region 1 with fail
 refine gen_world (fun W => W.cell? ⟨w.heap.size, 0, none⟩ = some (.slice a ca.length c) ∧ W.cell? ⟨w.heap.size + 1, 0, none⟩ = some (.slice b cb.length d) ∧ Below w.heap.size w W) ⟨by simp [go_sem], by simp [go_sem], by repeat (first | (with_reducible assumption) | exact Below.refl _ _ | (refine Below.setCell ?_ (by first | omega | (simp; omega) | (simp; done)) _) | (refine Below.alloc ?_ (by first | omega | (simp; omega) | (simp; done)) _) | (refine Below.drew ?_))⟩ ?_
 rintro W ⟨b0, b1, hb⟩
 have HB0 := Lib.hid hb
 have HTW := Lib.hid (HT.out W hb)
 clear hb
 go_upto_region 2 with (go_at_call 89; refine HTW.out.mono ?_; rintro e w1 ⟨x, y, rfl, hb, hr⟩; have HB1 := Lib.hid hb; obtain ⟨xa, xn, xc, ya, yn, yc, rfl, rfl⟩ := hr.shape; have HTP := Lib.hid hr; clear hb hr)
 have HBW1 := Lib.hid (HB0.out.trans (HB1.out.mono HB0.out.size))
 clear b0 b1
 by_cases h0 : twoE ca cb = 0
 ·obtain ⟨⟨Lx, hx1, hx2⟩, Ly, hy1, hy2⟩ := HTP.out.2 h0
  obtain ⟨e1, hbx⟩ := bods_of (HZ.out.1 h0).1 hx1 hx2
  obtain ⟨e2, hby⟩ := bods_of (HZ.out.1 h0).2 hy1 hy2
  subst e1 e2
  have HXS := Lib.hid (show X = Lx.map (·.ps) by rw [HX.out, ← hx1.ps])
  have HYS := Lib.hid (show Y = Ly.map (·.ps) by rw [HY.out, ← hy1.ps])
  have HBX := Lib.hid hbx
  have HBY := Lib.hid hby
  have hlx100 := hbx.l
  have hly100 := hby.l
  have HO2 := Lib.hid (show O = tchM X Y by rw [HO.out, if_neg (by simpa using h0)])
  have HT0 := Lib.hid (show T = 0 by rw [HTE.out, h0])
  rw [h0]
  clear hx1 hx2 hy1 hy2 hbx hby h0 HTP HZ HO HT HTW HX HY
  have HXL := Lib.hid (show X.length = Lx.length by rw [HXS.out]; simp)
  have HYL := Lib.hid (show Y.length = Ly.length by rw [HYS.out]; simp)
  obtain ⟨gb, hgb⟩ : ∃ g, g = w1.heap.size := ⟨_, rfl⟩
  have HGB := Lib.hid hgb
  clear hgb
  go_wp2_with fail
  go_loopw [9, 30] (fun v iv wr => ∃ (i : Nat) (L : List TR), i ≤ Lx.length ∧ iv = .int .i64 (i : Int) ∧ Hid (L.map (·.t) = tchI X Y i) ∧ Hid (L.length ≤ i * 100) ∧ TcSt gb wr v L ∧ Below w1.heap.size w1 wr) (fun _ iv _ => Lx.length - (intOf iv).toNat)
  case atStart => exact ⟨0, [], Nat.zero_le _, rfl, Lib.hid rfl, Lib.hid (by simp), TcSt.nil, Below.refl _ _⟩
  case round =>
   obtain ⟨i, L, hi, rfl, HLI, HLL, hst, hb⟩ := hrel
   obtain ⟨W2, rfl⟩ : ∃ W2 : World, W2 = wr := ⟨_, rfl⟩
   have HB2 := Lib.hid hb
   have HST2 := Lib.hid hst
   have hz2 := hb.size
   have HX2 := Lib.hid (HBX.out.keep hb)
   obtain ⟨va, vc, rfl, -, -⟩ := own_slice hst.o
   clear hb hst
   by_cases hlt : i < Lx.length
   ·have hki : (i : Int) < (Lx.length : Int) := by omega
    obtain ⟨bx, off, rfl, hat⟩ := HX2.out.v.at_ hlt
    obtain ⟨c0, c1⟩ := hat
    have HCB := Lib.hid (HX2.out.b _ (List.getElem_mem hlt))
    have HPM := Lib.hid (List.getElem_mem hlt)
    have HOF := Lib.hid (fun b e => (own_lt HST2.out.o (g := b) e).2)
    have HXD := Lib.hid (show X.getD i [] = Lx[i].ps by rw [HXS.out]; simp [List.getD, hlt])
    generalize Lx[i] = p at *
    have HNF := Lib.hid (fun W (hb : Below W2.heap.size W2 W) => normalForm_any p.ps p.pa p.pc (corn p.ps) p.ca p.cc W HCB.out.1.g HCB.out.1.ci HCB.out.1.l HCB.out.1.cl (HCB.out.1.pls.keep hb) (HCB.out.1.cos.keep hb))
    go_upto_region 8 with fail
    refine gen_world (fun W3 => Below W2.heap.size W2 W3 ∧ W3.cell? ⟨W2.heap.size, 0, none⟩ = some (.slice p.pa p.ps.length p.pc) ∧ W3.cell? ⟨W2.heap.size, 1, none⟩ = some (.slice p.ca (corn p.ps).length p.cc)) ⟨(Below.refl _ _).alloc (Nat.le_refl _) _, by simp [go_sem], by simp [go_sem]⟩ ?_
    rintro W3 ⟨hb3, x0, x1⟩
    have HN3 := Lib.hid (HNF.out W3 hb3)
    rw [show nor p.ps (corn p.ps) = nf p.ps from rfl] at HN3
    have HBA := Lib.hid (show Below W2.heap.size W2 W3 from hb3)
    have HK0 := Lib.hid x0
    have HK1 := Lib.hid x1
    have HG11 := Lib.hid (Nat.le_refl W2.heap.size)
    obtain ⟨g11, hg11⟩ : ∃ g, g = W2.heap.size := ⟨_, rfl⟩
    rw [← hg11] at x0 x1 HK0 HK1 HOF ⊢
    have HS11 := Lib.hid (show g11 ≤ W3.heap.size by rw [hg11]; exact HBA.out.size)
    clear hg11
    clear c0 c1 hb3
    have HGN := Lib.hid (show Good (nf p.ps) from HCB.out.1.g.nor _)
    have HLN := Lib.hid (show (nf p.ps).length ≤ 40 from Nat.le_trans (nor_len _ _) HCB.out.1.l)
    obtain ⟨N, hN⟩ : ∃ N, N = nf p.ps := ⟨_, rfl⟩
    rw [← hN] at HN3 HGN HLN
    have HNE := Lib.hid hN
    clear hN HNF
    go_upto_region 9 with (go_at_call 77; refine HN3.out.mono ?_; rintro e w4 ⟨na, nc, rfl, ho, hb⟩; have HNV := Lib.hid (ownPlV (fun q hq => Pl.in_.wf (HGN.out q hq).1) ho); have HNB := Lib.hid (fun b e => own_blk_lt ho b e); have HS34 := Lib.hid hb.size; have HB4 := Lib.hid (HBA.out.trans (hb.mono HBA.out.size)); have HK0 := Lib.hid (cell_keep hb HK0.out); have HK1 := Lib.hid (cell_keep hb HK1.out); clear ho hb)
    refine gen_world (fun W5 => Below w4.heap.size w4 W5 ∧ W5.cell? ⟨w4.heap.size, 0, none⟩ = some (.slice na N.length nc)) ⟨(Below.refl _ _).alloc (Nat.le_refl _) _, by simp [go_sem]⟩ ?_
    rintro W5 ⟨hb5, n0⟩
    have HB5 := Lib.hid (HB4.out.trans (hb5.mono HB4.out.size))
    have HNB5 := Lib.hid (show ∀ b, blk na = some b → g11 ≤ b ∧ b < W5.heap.size from fun b e => ⟨Nat.le_trans HS11.out (HNB.out b e).1, Nat.lt_of_lt_of_le (HNB.out b e).2 hb5.size⟩)
    have HNV5 := Lib.hid (HNV.out.keep hb5)
    have HK05 := Lib.hid (cell_keep hb5 HK0.out)
    have HK15 := Lib.hid (cell_keep hb5 HK1.out)
    have HN0 := Lib.hid n0
    have HBW5 := Lib.hid (show Below w1.heap.size w1 W5 from HB2.out.trans (HB5.out.mono hz2))
    have HST5 := Lib.hid (HST2.out.keep HB5.out)
    have HCB5 := Lib.hid (HCB.out.1.keep HB5.out)
    have HCL := Lib.hid HCB.out.2
    have HY5 := Lib.hid (HBY.out.keep HBW5.out)
    have HLW := Lib.hid (show w4.heap.size < W5.heap.size from by have := block_lt_of_cell n0; simpa using this)
    obtain ⟨g12, hg12⟩ : ∃ g, g = w4.heap.size := ⟨_, rfl⟩
    have HG1112 := Lib.hid (show g11 ≤ g12 by rw [hg12]; exact Nat.le_trans HS11.out HS34.out)
    rw [← hg12] at n0 HN0 HLW ⊢
    clear hg12 hb5 x0 x1 n0
    go_wp2_with fail
    have HOK := Lib.hid (show TcK g11 g12 p na nc N (.slice va L.length vc) W5 from ⟨HK05.out, HK15.out, HN0.out, HNV5.out, fun e => by have := HOF.out _ e; omega, fun e => by have := HOF.out _ e; have := HG1112.out; omega, fun b e => ⟨(HNB5.out b e).2, fun e' => by have := HOF.out _ e'; have := (HNB5.out b e).1; omega⟩⟩)
    go_loopw [9, 39] (fun v kv wq => ∃ (k : Nat) (M : List TR), k ≤ Ly.length ∧ kv = .int .i64 (k : Int) ∧ Hid (M.map (·.t) = tchI X Y i ++ tchJ X Y i k) ∧ Hid (M.length ≤ i * 100 + k) ∧ TcSt gb wq v M ∧ TcK g11 g12 p na nc N v wq ∧ Below w1.heap.size w1 wq) (fun _ kv _ => Ly.length - (intOf kv).toNat)
    case atStart => exact ⟨0, L, Nat.zero_le _, rfl, Lib.hid (by rw [HLI.out]; simp [tchJ]), Lib.hid (by have := HLL.out; omega), HST5.out, HOK.out, HBW5.out⟩
    case round =>
     obtain ⟨k, M, hk, rfl, HMI, HML, hst, hck, hb⟩ := hrel
     obtain ⟨W6, rfl⟩ : ∃ W6 : World, W6 = wr := ⟨_, rfl⟩
     have HB6 := Lib.hid hb
     have HS6 := Lib.hid hst
     have HC6 := Lib.hid hck
     obtain ⟨ma, mc, rfl, -, -⟩ := own_slice hst.o
     have HY6 := Lib.hid (HBY.out.keep hb)
     have HP6 := Lib.hid ((HBX.out.keep hb).b _ HPM.out).1
     have y0 := hck.a
     have y1 := hck.b
     have hgl6 := block_lt_of_cell y0
     simp only at hgl6
     clear hb hst hck
     by_cases hlt2 : k < Ly.length
     ·have hkj : (k : Int) < (Ly.length : Int) := by omega
      obtain ⟨yb, yoff, rfl, hat⟩ := HY6.out.v.at_ hlt2
      obtain ⟨d0, d1⟩ := hat
      have HDB := Lib.hid (HY6.out.b _ (List.getElem_mem hlt2))
      have HYD := Lib.hid (show Y.getD k [] = Ly[k].ps by rw [HYS.out]; simp [List.getD, hlt2])
      generalize Ly[k] = q at *
      have HST := Lib.hid (tchJ_succ X Y i k)
      rw [HXD.out, HYD.out] at HST
      go_upto_region 12 with fail
      refine gen_world (fun W7 => Below W6.heap.size W6 W7 ∧ W7.cell? ⟨W6.heap.size, 0, none⟩ = some (.slice q.pa q.ps.length q.pc) ∧ W7.cell? ⟨W6.heap.size, 1, none⟩ = some (.slice q.ca (corn q.ps).length q.cc) ∧ W7.cell? ⟨g11, 0, none⟩ = some (.slice p.pa p.ps.length p.pc) ∧ W7.cell? ⟨g11, 1, none⟩ = some (.slice p.ca (corn p.ps).length p.cc)) ⟨(Below.refl _ _).alloc (Nat.le_refl _) _, by simp [go_sem], by simp [go_sem], cell_keep ((Below.refl _ _).alloc (Nat.le_refl _) _) HC6.out.a, cell_keep ((Below.refl _ _).alloc (Nat.le_refl _) _) HC6.out.b⟩ ?_
      rintro W7 ⟨hb7, z0, z1, u0, u1⟩
      have HB7 := Lib.hid hb7
      have HP7 := Lib.hid (HP6.out.keep hb7)
      have HD7 := Lib.hid (HDB.out.1.keep hb7)
      have HDL := Lib.hid HDB.out.2
      generalize W6.heap.size = g14 at z0 z1 ⊢
      clear d0 d1 hb7 y0 y1
      have HC := Lib.hid (common_any p q W7 HP7.out.pls HD7.out.pls HP7.out.g HD7.out.g (by have := HCL.out; have := HDL.out; omega))
      have HSO := Lib.hid (fun (r : BR) (hr : r.ps = p.ps ++ q.ps) W W' W2 (hn : NB W W' r) (hb : Below W'.heap.size W' W2) => solidly_any r.ps r.pa r.pc (corn r.ps) r.ca r.cc W2 hn.g ((hn.keep hb).bg (by rw [hr]; have := HCL.out; have := HDL.out; simp; omega)).ci (by rw [hr]; have := HCL.out; have := HDL.out; simp; omega) ((hn.keep hb).bg (by rw [hr]; have := HCL.out; have := HDL.out; simp; omega)).cl ((hn.keep hb).bg (by rw [hr]; have := HCL.out; have := HDL.out; simp; omega)).pls ((hn.keep hb).bg (by rw [hr]; have := HCL.out; have := HDL.out; simp; omega)).cos)
      go_upto_region 13 with (go_at_call 93; refine HC.out.mono ?_; rintro e w8 ⟨r, hr, rfl, hn, hb⟩; have HRP := Lib.hid hr; have HN8 := Lib.hid hn; have HB8 := Lib.hid hb; clear hb hr hn)
      refine gen_world (fun W9 => Below w8.heap.size w8 W9 ∧ W9.cell? ⟨w8.heap.size, 0, none⟩ = some (.slice r.pa r.ps.length r.pc) ∧ W9.cell? ⟨w8.heap.size, 1, none⟩ = some (.slice r.ca (corn r.ps).length r.cc)) ⟨(Below.refl _ _).alloc (Nat.le_refl _) _, by simp [go_sem], by simp [go_sem]⟩ ?_
      rintro W9 ⟨hb9, s0, s1⟩
      have HSQ := Lib.hid (HSO.out r HRP.out _ _ _ HN8.out hb9)
      have HN9 := Lib.hid (HN8.out.keep hb9)
      have HB69 := Lib.hid (show Below W6.heap.size W6 W9 from HB7.out.trans ((HB8.out.trans (hb9.mono HB8.out.size)).mono HB7.out.size))
      have HRL := Lib.hid (show r.ps.length ≤ 40 by rw [HRP.out]; have := HCL.out; have := HDL.out; simp; omega)
      have HBR := Lib.hid (show BG W9 r from HN9.out.bg HRL.out)
      have HCN := Lib.hid (show (corn r.ps).length ≤ 500000 by have := corn_len (l := r.ps) HRL.out; omega)
      have HRB := Lib.hid (show ∀ b, blk r.ca = some b → W7.heap.size ≤ b ∧ b < W9.heap.size from fun b e => own_blk_lt HN9.out.co b e)
      have hgr := block_lt_of_cell s0
      simp only at hgr
      generalize w8.heap.size = g15 at s0 s1 hgr ⊢
      have HTB := Lib.hid (show tchB p.ps q.ps = (decide (3 ≤ (corn r.ps).length) && !insid r.ps (corn r.ps)) by rw [HRP.out]; rfl)
      have HSB := Lib.hid (fun h : 3 ≤ (corn r.ps).length => show solB r.ps (corn r.ps) = insid r.ps (corn r.ps) from by have h2 := solM_ins (c := p.ps) (d := q.ps) (by rw [← HRP.out]; exact h); rw [← HRP.out] at h2; exact h2)
      have HNO := Lib.hid (fun h : tchB p.ps q.ps = false => show M.map (·.t) = tchI X Y i ++ tchJ X Y i (k + 1) by rw [HMI.out, HST.out, tchK_no h, List.append_nil])
      have HYE := Lib.hid (fun h : tchB p.ps q.ps = true => show tchJ X Y i (k + 1) = tchJ X Y i k ++ tchT (corn r.ps) i k (N.find? (onP (corn r.ps))) by rw [HST.out, tchK_yes h, HNE.out, HRP.out])
      have HCI := Lib.hid (show ∀ c ∈ corn r.ps, c.in_ from HBR.out.ci)
      have HCV := Lib.hid (show Cos.V W9 r.ca (corn r.ps) from HBR.out.cos)
      have hn40 := HLN.out
      clear z0 z1 u0 u1 hb9 HSO HST HC
      generalize corn r.ps = CR at *
      by_cases h3 : CR.length < 3
      ·have hli : (CR.length : Int) < 3 := by omega
       have HNX := Lib.hid (HNO.out (by rw [HTB.out]; simp; omega))
       go_wp2_with fail
       go_roundw
       case rel => exact ⟨k + 1, M, by omega, by go_num, HNX, Lib.hid (by have := HML.out; omega), HS6.out.keep HB69.out, HC6.out.keep HB69.out, HB6.out.trans (HB69.out.mono HB6.out.size)⟩
       case measure => first | (simp [intOf]; done) | (simp [intOf]; omega)
      ·have hli : ¬ (CR.length : Int) < 3 := by omega
       rw [HSB.out (by omega)] at HSQ
       cases hin : insid r.ps CR with
       | true =>
        rw [hin] at HSQ HTB
        have HNX := Lib.hid (HNO.out (by rw [HTB.out]; simp))
        go_wp2_with (go_at_call 94; refine HSQ.out.mono ?_; rintro e w10 ⟨rfl, hb⟩; have HBS := Lib.hid (HB69.out.trans (hb.mono HB69.out.size)); clear hb)
        go_roundw
        case rel => exact ⟨k + 1, M, by omega, by go_num, HNX, Lib.hid (by have := HML.out; omega), HS6.out.keep HBS.out, HC6.out.keep HBS.out, HB6.out.trans (HBS.out.mono HB6.out.size)⟩
        case measure => first | (simp [intOf]; done) | (simp [intOf]; omega)
       | false =>
        rw [hin] at HSQ HTB
        have HYX := Lib.hid (HYE.out (by rw [HTB.out]; simp; omega))
        have HN0 := Lib.hid HC6.out.c
        go_upto_region 14 with (go_at_call 94; refine HSQ.out.mono ?_; rintro e w10 ⟨rfl, hb⟩; have HBS := Lib.hid hb; have t0 := cell_keep hb s0; have t1 := cell_keep hb s1; clear hb)
        have HB610 := Lib.hid (show Below W6.heap.size W6 w10 from HB69.out.trans (HBS.out.mono HB69.out.size))
        have n10 := cell_keep HB610.out HN0.out
        have HT0 := Lib.hid t0
        have HT1 := Lib.hid t1
        have HC10 := Lib.hid (HCV.out.keep HBS.out)
        have HNV10 := Lib.hid (HC6.out.n.keep HB610.out)
        clear s0 s1
        go_wp2_with fail
        go_loopw [9, 58] (fun v jv wj => ∃ m : Nat, m ≤ N.length ∧ v = .slice ma M.length mc ∧ jv = .int .i64 (m : Int) ∧ Hid (N.find? (onP CR) = (N.drop m).find? (onP CR)) ∧ Below w10.heap.size w10 wj) (fun _ jv _ => N.length - (intOf jv).toNat)
        case atStart => exact ⟨0, Nat.zero_le _, rfl, rfl, Lib.hid rfl, Below.refl _ _⟩
        case round =>
         obtain ⟨m, hm, rfl, rfl, HFI, hb⟩ := hrel
         obtain ⟨W11, rfl⟩ : ∃ W11 : World, W11 = wr := ⟨_, rfl⟩
         have HB11 := Lib.hid hb
         have HNV11 := Lib.hid (HNV10.out.keep hb)
         have HC11 := Lib.hid (HC10.out.keep hb)
         have e0 := cell_keep hb HT0.out
         have e1 := cell_keep hb HT1.out
         have HE0 := Lib.hid e0
         have HE1 := Lib.hid e1
         have HB611 := Lib.hid (HB610.out.trans (hb.mono HB610.out.size))
         clear hb t0 t1 n10
         by_cases hlt3 : m < N.length
         ·have hmj : (m : Int) < (N.length : Int) := by omega
          obtain ⟨nb, noff, rfl, hat⟩ := HNV11.out.at_ hlt3
          obtain ⟨f0, f1, f2, f3, -⟩ := hat
          have HGP := Lib.hid (HGN.out _ (List.getElem_mem hlt3)).1
          have HFD := Lib.hid (find_drop (P := onP CR) hlt3)
          generalize N[m] = x at *
          go_upto_region 17 with fail
          refine gen_world (fun W12 => Below W11.heap.size W11 W12 ∧ (W12.cell? ⟨W11.heap.size, 0, none⟩ = some (.int .i64 x.a) ∧ W12.cell? ⟨W11.heap.size, 1, none⟩ = some (.int .i64 x.b) ∧ W12.cell? ⟨W11.heap.size, 2, none⟩ = some (.int .i64 x.c) ∧ W12.cell? ⟨W11.heap.size, 3, none⟩ = some (.int .i64 x.d)) ∧ W12.cell? ⟨g15, 0, none⟩ = some (.slice r.pa r.ps.length r.pc) ∧ W12.cell? ⟨g15, 1, none⟩ = some (.slice r.ca CR.length r.cc)) ⟨(Below.refl _ _).alloc (Nat.le_refl _) _, ⟨by simp [go_sem], by simp [go_sem], by simp [go_sem], by simp [go_sem]⟩, cell_keep ((Below.refl _ _).alloc (Nat.le_refl _) _) HE0.out, cell_keep ((Below.refl _ _).alloc (Nat.le_refl _) _) HE1.out⟩ ?_
          rintro W12 ⟨hb12, ⟨q0, q1, q2, q3⟩, v0, v1⟩
          have HB12 := Lib.hid hb12
          have HP0 := Lib.hid (And.intro q0 (And.intro q1 (And.intro q2 q3)))
          have HV0 := Lib.hid (And.intro v0 v1)
          have HHS := Lib.hid (has_tou1 (fun c => !decide (sd x c = 0)) r.ca CR r.cc (.pointer (some ⟨W11.heap.size, 0, none⟩)) W12 (HC11.out.keep hb12) (by have := HCN.out; omega) (fun c hc w1 hb1 => tou1_any c x HGP.out (HCI.out c hc) _ w1 (cell_keep hb1 q0) (cell_keep hb1 q1) (cell_keep hb1 q2) (cell_keep hb1 q3)))
          rw [any_onP] at HHS
          obtain ⟨g17, hg17⟩ : ∃ g, g = W11.heap.size := ⟨_, rfl⟩
          rw [← hg17] at HHS HP0 ⊢
          clear hg17
          clear f0 f1 f2 f3 hb12 e0 e1 q0 q1 q2 q3
          cases hon : onP CR x with
          | false =>
           rw [hon] at HHS HFD
           have HFX := Lib.hid (show N.find? (onP CR) = (N.drop (m + 1)).find? (onP CR) by rw [HFI.out, HFD.out]; rfl)
           go_wp2_with (go_at_call 95; refine HHS.out.mono ?_; rintro e w13 ⟨rfl, hb⟩; have HB13 := Lib.hid hb; clear hb)
           go_roundw
           case rel => exact ⟨m + 1, by omega, rfl, by go_num, HFX, HB11.out.trans ((HB12.out.trans (HB13.out.mono HB12.out.size)).mono HB11.out.size)⟩
           case measure => first | (simp [intOf]; done) | (simp [intOf]; omega)
          | true =>
           rw [hon] at HHS HFD
           have HFX := Lib.hid (show N.find? (onP CR) = some x by rw [HFI.out, HFD.out]; rfl)
           have HYZ := Lib.hid (show (M ++ [(⟨⟨i, k, x, CR⟩, r.ca, r.cc⟩ : TR)]).map (·.t) = tchI X Y i ++ tchJ X Y i (k + 1) by rw [HYX.out, HFX.out, List.map_append, HMI.out, List.append_assoc]; rfl)
           have HW11 := Lib.hid (HB611.out.trans (HB12.out.mono HB611.out.size))
           have HNB := Lib.hid (show ∀ b, blk r.ca = some b → gb ≤ b ∧ b < W12.heap.size ∧ (Value.slice ma M.length mc).ownBlock ≠ some b from fun b e => ⟨by have h1 := (HRB.out b e).1; have h2 := HB7.out.size; have h3 := HB6.out.size; have h4 := HGB.out; omega, by have h1 := (HRB.out b e).2; have h2 := HBS.out.size; have h3 := HB11.out.size; have h4 := HB12.out.size; omega, fun e' => by have h1 := (HRB.out b e).1; have h2 := HB7.out.size; have h3 := (own_lt HS6.out.o e').2; omega⟩)
           have HCX := Lib.hid (HC11.out.keep HB12.out)
           have HMLE := Lib.hid (show M.length ≤ 20000 by have := HML.out; omega)
           go_upto_region 18 with (go_at_call 95; refine HHS.out.mono ?_; rintro e w13 ⟨rfl, hb⟩; have HB13 := Lib.hid (HW11.out.trans (hb.mono HW11.out.size)); have HNB := Lib.hid (show ∀ b, blk r.ca = some b → gb ≤ b ∧ b < w13.heap.size ∧ (Value.slice ma M.length mc).ownBlock ≠ some b from fun b e => ⟨(HNB.out b e).1, Nat.lt_of_lt_of_le (HNB.out b e).2.1 hb.size, (HNB.out b e).2.2⟩); have HCX := Lib.hid (HCX.out.keep hb); have r0 := cell_keep hb HP0.out.1; have r1 := cell_keep hb HP0.out.2.1; have r2 := cell_keep hb HP0.out.2.2.1; have r3 := cell_keep hb HP0.out.2.2.2; have v3 := cell_keep hb HV0.out.1; have v4 := cell_keep hb HV0.out.2; clear hb)
           have HGG := Lib.hid (show g15 < w13.heap.size from by have := block_lt_of_cell v3; simpa using this)
           have HGH := Lib.hid (show g17 < w13.heap.size from by have := block_lt_of_cell r0; simpa using this)
           clear v0 v1
           have hal := (Below.refl w13.heap.size w13).alloc (Nat.le_refl _) (.cells #[.int .i64 (i : Int), .int .i64 (k : Int), .int .i64 x.a, .int .i64 x.b, .int .i64 x.c, .int .i64 x.d, .slice r.ca CR.length r.cc] 66)
           have HNW := Lib.hid (show ∀ j u, (cellsTR ⟨⟨i, k, x, CR⟩, r.ca, r.cc⟩)[j]? = some u → (w13.alloc (.cells #[.int .i64 (i : Int), .int .i64 (k : Int), .int .i64 x.a, .int .i64 x.b, .int .i64 x.c, .int .i64 x.d, .slice r.ca CR.length r.cc] 66)).cell? ((⟨w13.heap.size, 0, none⟩ : Addr).add j) = some u from fun j u hj => by
            have := news_of (cellsTR ⟨⟨i, k, x, CR⟩, r.ca, r.cc⟩) 66 w13 w13.heap.size rfl j u hj
            simpa [cellsTR] using this)
           have HS13 := Lib.hid ((HS6.out.keep HB13.out).keep hal)
           have HC13 := Lib.hid ((HC6.out.keep HB13.out).keep hal)
           have HB14 := Lib.hid (HB6.out.trans ((HB13.out.trans (hal.mono HB13.out.size)).mono HB6.out.size))
           have HOKR := Lib.hid (show TRok gb (w13.alloc (.cells #[.int .i64 (i : Int), .int .i64 (k : Int), .int .i64 x.a, .int .i64 x.b, .int .i64 x.c, .int .i64 x.d, .slice r.ca CR.length r.cc] 66)) (.slice ma M.length mc) ⟨⟨i, k, x, CR⟩, r.ca, r.cc⟩ from ⟨HCX.out.keep hal, fun b e => ⟨(HNB.out b e).1, Nat.lt_of_lt_of_le (HNB.out b e).2.1 hal.size, (HNB.out b e).2.2⟩, HCI.out, HCN.out⟩)
           clear hal
           go_wp2_with (at_builtin; refine wpList_append_here _ rfl _ _ 61 rfl gb 66 i0 (.agg #[.int .i64 0, .int .i64 0, .int .i64 0, .int .i64 0, .int .i64 0, .int .i64 0, .slice none 0 0]) 7 72 Tryz.underlying61 hi0 hz0 hz1 hzb rfl (by decide) (.slice ma M.length mc) M.length (M.flatMap cellsTR) rfl HS13.out.o ⟨w13.heap.size, 0, none⟩ 1 1 (cellsTR ⟨⟨i, k, x, CR⟩, r.ca, r.cc⟩) rfl rfl HNW.out (cellsTR_one ⟨⟨i, k, x, CR⟩, r.ca, r.cc⟩) (by decide) (by have := HMLE.out; simp only [maxLen]; omega) (by have := HMLE.out; omega) (by have := HGB.out; have := HB14.out.size; omega) ?_; intro v' w15 hown hgr hat; obtain ⟨va', vc', rfl, -, -⟩ := own_slice hown; have HG15 := Lib.hid hgr; have HA15 := Lib.hid hat; have HO15 := Lib.hid hown; clear hown hgr hat)
           go_roundw
           case rel => exact ⟨k + 1, M ++ [⟨⟨i, k, x, CR⟩, r.ca, r.cc⟩], by omega, by go_num, HYZ, Lib.hid (by have := HML.out; simp; omega), HS13.out.put HG15.out HA15.out HOKR.out (by rw [List.flatMap_append, List.length_append]; simpa using HO15.out), HC13.out.grown HG15.out HA15.out, below_grown HB14.out HG15.out (HB14.out.size) fun j hj => by have := (own_lt HS13.out.o hj).1; have := HGB.out; omega⟩
           case measure => first | (simp [intOf]; done) | (simp [intOf]; omega)
         ·obtain rfl : m = N.length := by omega
          have hmj : ¬ ((N.length : Nat) : Int) < ((N.length : Nat) : Int) := by omega
          have HFX := Lib.hid (show N.find? (onP CR) = none by rw [HFI.out]; simp)
          have HNX := Lib.hid (show M.map (·.t) = tchI X Y i ++ tchJ X Y i (k + 1) by rw [HYX.out, HFX.out, HMI.out]; simp [tchT])
          clear e0 e1
          go_wp2_with fail
          go_roundw
          case rel => exact ⟨k + 1, M, by omega, by go_num, HNX, Lib.hid (by have := HML.out; omega), HS6.out.keep HB611.out, HC6.out.keep HB611.out, HB6.out.trans (HB611.out.mono HB6.out.size)⟩
          case measure => first | (simp [intOf]; done) | (simp [intOf]; omega)
     ·obtain rfl : k = Ly.length := by omega
      have hkj : ¬ ((Ly.length : Nat) : Int) < ((Ly.length : Nat) : Int) := by omega
      have HNX := Lib.hid (show M.map (·.t) = tchI X Y (i + 1) by rw [HMI.out, tchI_succ, HYL.out])
      clear y0 y1
      go_wp2_with fail
      go_roundw
      case rel => exact ⟨i + 1, M, by omega, by go_num, HNX, Lib.hid (by have := HML.out; omega), HS6.out, HB6.out⟩
      case measure => first | (simp [intOf]; done) | (simp [intOf]; omega)
   ·obtain rfl : i = Lx.length := by omega
    have hki : ¬ ((Lx.length : Nat) : Int) < ((Lx.length : Nat) : Int) := by omega
    have HNX := Lib.hid (show L.map (·.t) = O by rw [HO2.out, HLI.out]; unfold tchM; rw [HXL.out])
    go_wp2_with fail
    refine bodyPost_ret (v := .tuple #[.slice va L.length vc, .int .i64 0]) (by simp [results, Tryz.results39, go_sem]) rfl ?_
    exact ⟨va, vc, L, by rw [HT0.out], HNX, HST2.out.mono (by rw [HGB.out]; exact HBW1.out.size), HBW1.out.trans (HB2.out.mono HBW1.out.size)⟩
 ·have hE1 : (twoE ca cb != 0) = true := by simpa using h0
  have HNX := Lib.hid (show ([] : List TR).map (·.t) = O by rw [HO.out, if_pos h0]; rfl)
  clear h0
  rw [← HTE.out] at hE1 ⊢
  go_wp2_with fail
  refine bodyPost_ret (v := .tuple #[.slice none 0 0, .int .i64 T]) (by simp [results, Tryz.results39, go_sem]) rfl ?_
  exact ⟨none, 0, [], rfl, HNX, TcSt.nil, HBW1.out⟩
end Go.Proofs.YtbhgkadklklmbaaGreat
