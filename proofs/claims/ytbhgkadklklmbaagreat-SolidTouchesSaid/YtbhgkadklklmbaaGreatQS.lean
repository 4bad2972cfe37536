/- Two rows of planes joined; what the laws know of few cells. -/
import Derived.Test.YtbhgkadklklmbaaGreatQM
import Derived.Test.YtbhgkadklklmbaaGreatQO
import Derived.Test.YtbhgkadklklmbaaGreatQG
import Derived.Test.YtbhgkadklklmbaaGreatQF
import Derived.Test.YtbhgkadklklmbaaGreatQL
import Derived.Test.YtbhgkadklklmbaaGreatQI
set_option linter.unusedVariables false
set_option linter.unusedSimpArgs false
namespace Go.Proofs.YtbhgkadklklmbaaGreat
open Go Go.RowKit Go.Sort Go.Lib

theorem cells_len {w : World} {a : Option Addr} {l : List Cell} (h : Cells.V w a l) : ∀ x ∈ l, x.planes.length ≤ 9223372036854775807 := fun x hx => by
 obtain ⟨b, off, rfl, hz⟩ := h (List.ne_nil_of_mem hx)
 obtain ⟨k, hk, rfl⟩ := List.mem_iff_getElem.1 hx
 obtain ⟨pa, pc, -, -, h1, h2, -⟩ := hz k _ (List.getElem?_eq_getElem hk)
 simp only [maxLen] at h2
 omega
theorem few_len {cs : List Cell} {m : Int} (hm : m ≤ 4) (h : fewB cs m = true) : cs.length ≤ 105 := by
 unfold fewB at h
 simp only [Bool.and_eq_true, Bool.not_eq_true', Bool.or_eq_false_iff, decide_eq_false_iff_not] at h
 omega
theorem few_pl {cs : List Cell} {m : Int} (h : fewB cs m = true) : ∀ x ∈ cs, x.planes.length ≤ 20 := fun x hx => by
 unfold fewB at h
 rw [Bool.and_eq_true] at h
 have := List.all_eq_true.1 h.2 x hx
 unfold slimB at this
 simp only [Bool.or_eq_true, Bool.and_eq_true, decide_eq_true_eq] at this
 omega
set_option maxRecDepth 100000 in
set_option maxHeartbeats 4000000 in
theorem joined_any (ps qs : List Pl) (pa qa : Option Addr) (pc qc : Nat) (w : World) (hv : Pls.V w pa ps) (hu : Pls.V w qa qs) (hl : ps.length ≤ 100000) (hm : qs.length ≤ 100000) :
    Calls Tryz.prog 97 #[.slice pa ps.length pc, .slice qa qs.length qc] w fun e w' => ∃ a c, e = .returned (.slice a (ps ++ qs).length c) ∧ w'.ownsRow w.heap.size 26 4 (.slice a (ps ++ qs).length c) (ps ++ qs).length ((ps ++ qs).flatMap cellsPl) ∧ Below w.heap.size w w' := by
 obtain ⟨i0, hi0, hz0, hz1, hz2⟩ := info_parts infoPl
 have HB := Lib.hid ((Below.refl w.heap.size w).alloc (Nat.le_refl _) (.cells #[] 26))
 have HOW := Lib.hid (World.ownsRow_made (e := 26) (base := w.heap.size) (size := 4) w #[] 0 (by omega) (by decide) (by simp))
 have HPV := Lib.hid (plsNews (hv.keep HB.out))
 have HQ := Lib.hid hu
 clear hv hu
 go_enter Tryz.func97, Tryz.ntmps97
 go_wp2_with (first
  | (have hpv := HPV.out; clear HPV; at_builtin; refine wpList_append_rows cellsPl_len cellsPl_one (by decide) rfl _ _ 22 rfl w.heap.size 26 i0 _ 32 Tryz.underlying22 hi0 hz0 hz1 hz2 rfl (by decide) (.slice (some ⟨w.heap.size, 0, none⟩) 0 0) 0 [] rfl HOW.out pa ps pc rfl hpv (by omega) (by simp) ?_; clear hpv; intro v' w5 ho5 hg5 ha5; obtain ⟨ra, rc, rfl, -, -⟩ := own_slice ho5; have HO5 := Lib.hid (show w5.ownsRow w.heap.size 26 4 (.slice ra ps.length rc) ps.length (ps.flatMap cellsPl) by simpa using ho5); have HB5 := Lib.hid (below_grown HB.out hg5 HB.out.size fun k hk => by have := (own_lt HOW.out hk).1; omega); have HQN := Lib.hid (plsNews (HQ.out.keep HB5.out)); clear ho5 hg5 ha5)
  | (have hqn := HQN.out; clear HQN; at_builtin; refine wpList_append_rows cellsPl_len cellsPl_one (by decide) rfl _ _ 22 rfl w.heap.size 26 i0 _ 32 Tryz.underlying22 hi0 hz0 hz1 hz2 rfl (by decide) (.slice ra ps.length rc) ps.length (ps.flatMap cellsPl) rfl HO5.out qa qs qc rfl hqn (by omega) HB5.out.size ?_; clear hqn; intro v' w6 ho6 hg6 ha6; obtain ⟨ta, tc, rfl, -, -⟩ := own_slice ho6; have HO6 := Lib.hid (show w6.ownsRow w.heap.size 26 4 (.slice ta (ps.length + qs.length) tc) (ps.length + qs.length) (ps.flatMap cellsPl ++ qs.flatMap cellsPl) from ho6); have HB6 := Lib.hid (below_grown HB5.out hg6 HB5.out.size fun k hk => (own_lt HO5.out hk).1); clear ho6 hg6 ha6))
 go_ret
 exact ⟨ta, tc, by rw [List.length_append]; rfl, by rw [List.length_append, List.flatMap_append]; exact HO6.out, HB6.out⟩
end Go.Proofs.YtbhgkadklklmbaaGreat
/- The check of an overlap's proof, as the document says it. -/
set_option linter.unusedVariables false
set_option linter.unusedSimpArgs false
namespace Go.Proofs.YtbhgkadklklmbaaGreat
open Go Go.RowKit Go.Sort Go.Lib

def lapIn (A B : List Cell) (o : Lap) : Prop := (0 ≤ o.a ∧ o.a < A.length) ∧ (0 ≤ o.b ∧ o.b < B.length)
instance (A B : List Cell) (o : Lap) : Decidable (lapIn A B o) := by unfold lapIn; infer_instance
end Go.Proofs.YtbhgkadklklmbaaGreat
/- Points in memory as the append wants them; cells kept beside an empty block. -/
set_option linter.unusedVariables false
set_option linter.unusedSimpArgs false
namespace Go.Proofs.YtbhgkadklklmbaaGreat
open Go Go.RowKit Go.Sort Go.Lib

theorem cosNews {w : World} {a : Option Addr} {l : List Co} (h : Cos.V w a l) : l ≠ [] → ∃ ad, a = some ad ∧ ∀ j u, (l.flatMap cellsCo)[j]? = some u → w.cell? (ad.add j) = some u := fun hne => by
 obtain ⟨b, off, rfl, _⟩ := h hne
 exact ⟨_, rfl, row_news cellsCo_len (by decide) (fun _ _ _ h => Co_cells h) h⟩
end Go.Proofs.YtbhgkadklklmbaaGreat
