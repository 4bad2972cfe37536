/- What lines of the program makes of a slice of the call's own: its members, ascending, without repetition. -/
import Derived.Test.YthhchnhidhgccaaOver
import Derived.Test.YthhchnhidhgccaaUniq
import Derived.Test.YthhchnhidhgccaaShelf
import Derived.Sort.OwnSortedInts
import Derived.Lib.OwnBridge
set_option linter.unusedVariables false
set_option linter.unusedSimpArgs false
namespace Go.Proofs.Ythhchnhidhgccaa
open Go Go.RowKit Go.Sort Go.Lib

theorem grown_both {a b c : World} {row : Option Nat} (h : a.grownBy b row) (k : b.grownBy c row) : a.grownBy c row :=
  ⟨k.os.trans h.os, k.tape.trans h.tape, k.output.trans h.output, Nat.le_trans h.size k.size, fun i hi hne => (k.block i (Nat.lt_of_lt_of_le hi h.size) hne).trans (h.block i hi hne)⟩
theorem sort_n (g cap : Nat) (zs : List Int) (w : World) (base : Nat) (hown : w.ownsRow base 3 1 (.slice (some ⟨g, 0, none⟩) zs.length cap) zs.length (zs.map (Value.int .i64))) (hl : zs.length < 1000000) :
    Calls Try.prog 124 #[.slice (some ⟨g, 0, none⟩) zs.length cap] w fun e w' => e = .returned (.tuple #[]) ∧
      w'.ownsRow base 3 1 (.slice (some ⟨g, 0, none⟩) zs.length cap) zs.length ((zs.mergeSort fun x y => decide (x ≤ y)).map (Value.int .i64)) ∧ w.grownBy w' (some g) := by
  rcases hown.2 with ⟨h0, _⟩ | ⟨g', cap', cur, hv, hbase, hb, h1, h2, h3, h4⟩
  · cases h0
  · injection hv with hv1 _ hv2
    injection hv1 with hv1
    injection hv1 with hv1
    subst hv1 hv2
    have hgl : g < w.heap.size := (Array.getElem?_eq_some_iff.1 hb).1
    have hH : Holds (Value.int .i64) w g 0 zs.toArray := holds_of_blockI hb (by simpa using h4)
    refine (Try.slices_Sort_int g 0 cap zs w hH hgl (by omega)).mono ?_
    rintro e w1 ⟨he, n1, os, rfl⟩
    exact ⟨he, ownsRow_sortedI (List.length_mergeSort _) hbase hb h1 h2 h3, grownBy_sortedI _⟩

theorem compact_n (g cap : Nat) (n : Nat) (l : List Int) (w : World) (base : Nat) (hn : n = l.length) (hown : w.ownsRow base 3 1 (.slice (some ⟨g, 0, none⟩) n cap) n (l.map (Value.int .i64))) (hl : n < 1000000) :
    Calls Try.prog 125 #[.slice (some ⟨g, 0, none⟩) n cap] w fun e w' => e = .returned (.slice (some ⟨g, 0, none⟩) (Lib.compact l).length cap) ∧
      w'.ownsRow base 3 1 (.slice (some ⟨g, 0, none⟩) n cap) n ((Lib.compact l ++ List.replicate (n - (Lib.compact l).length) 0).map (Value.int .i64)) ∧ w.grownBy w' (some g) := by
  subst hn
  obtain ⟨g0, cap0, hv, hbase, hgl, hnc, hcm, -, hH⟩ := holds_of_ownsRow hown (by simp)
  injection hv with hv1 _ hv2
  injection hv1 with hv1
  injection hv1 with hv1
  subst hv1 hv2
  refine (Try.slices_Compact_int g 0 cap l w hH (by omega) hnc).mono ?_
  rintro e w1 ⟨he, q, rfl⟩
  have hcl := Lib.compact_length_le l
  have hy : (Lib.compact l ++ List.replicate (l.length - (Lib.compact l).length) 0).length = l.length := by simp; omega
  have ho := ownsRow_putRow (q := q) (ys := Lib.compact l ++ List.replicate (l.length - (Lib.compact l).length) 0) hown hy (Nat.le_refl _)
  rw [List.take_of_length_le (by omega)] at ho
  refine ⟨he, ho, ⟨rfl, rfl, rfl, by simp [putRow, mapBlock, Sort.ahead], fun k hk hne => ?_⟩⟩
  have : g ≠ k := fun e => hne (by rw [e])
  simp [putRow, mapBlock, Sort.ahead, Array.getElem?_modify, this]

theorem lines_any (base g cap : Nat) (zs : List Int) (w : World) (hown : w.ownsRow base 3 1 (.slice (some ⟨g, 0, none⟩) zs.length cap) zs.length (zs.map (Value.int .i64))) (hl : zs.length < 1000000) :
    Calls Try.prog 112 #[.slice (some ⟨g, 0, none⟩) zs.length cap] w fun e w' => e = .returned (.slice (some ⟨g, 0, none⟩) (uniq zs).length cap) ∧
      w'.ownsRow base 3 1 (.slice (some ⟨g, 0, none⟩) zs.length cap) zs.length ((uniq zs ++ List.replicate (zs.length - (uniq zs).length) 0).map (Value.int .i64)) ∧ w.grownBy w' (some g) := by
  have HS := Lib.hid (sort_n g cap zs w base hown hl)
  clear hown
  have HM := Lib.hid (show zs.length = (zs.mergeSort fun x y => decide (x ≤ y)).length from (List.length_mergeSort _).symm)
  go_enter Try.func112, Try.ntmps112
  go_wp2_with (first
    | (go_at_call 124; refine HS.out.mono ?_; rintro e w1 ⟨rfl, ho1, hg1⟩; have HO1 := Lib.hid ho1; clear ho1)
    | (go_at_call 125; refine (compact_n _ _ _ _ _ base HM.out HO1.out hl).mono ?_; rintro e w2 ⟨rfl, ho2, hg2⟩; have HO2 := Lib.hid ho2; clear ho2))
  go_ret
  exact ⟨rfl, HO2.out, grown_both hg1 hg2⟩
end Go.Proofs.Ythhchnhidhgccaa
