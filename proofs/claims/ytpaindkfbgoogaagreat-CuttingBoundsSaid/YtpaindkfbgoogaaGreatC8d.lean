/- The sort of numbers that the call itself owns. -/
import Derived.Test.YtpaindkfbgoogaaGreatC8c
import Derived.Test.YtpaindkfbgoogaaGreatShelf
import Derived.Sort.OwnSortedInts
import Derived.Lib.OwnBridge
import Derived.Lib.RowBridge
set_option linter.unusedVariables false
set_option linter.unusedSimpArgs false
namespace Go.Proofs.YtpaindkfbgoogaaGreat
open Go Go.RowKit Go.Sort Go.Lib

theorem sort_n (g cap : Nat) (zs : List Int) (w : World) (base : Nat) (hown : w.ownsRow base 3 1 (.slice (some ⟨g, 0, none⟩) zs.length cap) zs.length (zs.map (Value.int .i64))) (hl : zs.length < 1000000) :
    Calls Tryz.prog 97 #[.slice (some ⟨g, 0, none⟩) zs.length cap] w fun e w' => e = .returned (.tuple #[]) ∧
      w'.ownsRow base 3 1 (.slice (some ⟨g, 0, none⟩) zs.length cap) zs.length ((zs.mergeSort fun x y => decide (x ≤ y)).map (Value.int .i64)) ∧ w.grownBy w' (some g) := by
  rcases hown.2 with ⟨h0, _⟩ | ⟨g', cap', cur, hv, hbase, hb, h1, h2, h3, h4⟩
  · cases h0
  · injection hv with hv1 _ hv2
    injection hv1 with hv1
    injection hv1 with hv1
    subst hv1 hv2
    have hgl : g < w.heap.size := (Array.getElem?_eq_some_iff.1 hb).1
    have hH : Holds (Value.int .i64) w g 0 zs.toArray := holds_of_blockI hb (by simpa using h4)
    refine (Tryz.slices_Sort_int g 0 cap zs w hH hgl (by omega)).mono ?_
    rintro e w1 ⟨he, n1, os, rfl⟩
    exact ⟨he, ownsRow_sortedI (List.length_mergeSort _) hbase hb h1 h2 h3, grownBy_sortedI _⟩
end Go.Proofs.YtpaindkfbgoogaaGreat
