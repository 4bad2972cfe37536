/- The stable sort of the order of the blanks (fewer than twenty). -/
import Derived.Test.YtpaindkfbgoogaaGreatSortM
import Derived.Test.YtpaindkfbgoogaaGreatShelf
set_option linter.unusedVariables false
set_option linter.unusedSimpArgs false
namespace Go.Proofs.YtpaindkfbgoogaaGreat
open Go Go.RowKit Go.Sort Go.Lib

abbrev Ix (n : Nat) := { i : Nat // i < n }
def encI (n : Nat) (i : Ix n) : Value := .int .i64 (i.1 : Int)
def cfI (blanks : List Blank) (x y : Ix blanks.length) : Int := cmpB blanks[x.1] blanks[y.1]
section
variable {α : Type} [Inhabited α] {enc : α → Value}
theorem below_sortW {B : Nat} {w0 w : World} {g m : Nat} {d : Array α} {os : Array Obj} (h : Below B w0 w) (hg : B ≤ g) (hB : B ≤ w.heap.size) : Below B w0 (Go.Proofs.sortWorld enc w g 0 m d os) := by
  refine ⟨h.os, h.tape, h.output, ?_, fun j hj => ?_⟩
  · have := h.size
    simp [Go.Proofs.sortWorld, Go.Sort.putRow, Go.Sort.mapBlock, Go.Sort.ahead]; omega
  · rw [← h.block j hj]
    unfold Go.Proofs.sortWorld Go.Sort.putRow
    rw [Go.Sort.heap_grow_old _ _ (by simp [Go.Sort.mapBlock, Go.Sort.ahead]; omega)]
    simp [Go.Sort.mapBlock, Go.Sort.ahead, Array.getElem?_modify, show g ≠ j by omega]
end
theorem cmpLaysB (gj : Nat) (blanks : List Blank) [Inhabited (Ix blanks.length)] (ab : Option Addr) (cb blk size : Nat) (W0 w : World) (hb : Below W0.heap.size W0 w) (hj : W0.cell? ⟨gj, 1, none⟩ = some (.slice ab blanks.length cb)) (hv : Blanks.V W0 ab blanks) (hl : blanks.length ≤ 30)
    (hsz : ∀ x ∈ blanks, (1 ≤ x.length ∧ x.length ≤ 600000) ∧ (1 ≤ x.width ∧ x.width ≤ 600000)) (hblk : W0.heap.size ≤ blk) :
    CmpLays1 Tryz.prog 76 #[.pointer (some ⟨gj, 0, none⟩)] (encI blanks.length) (cfI blanks) blk 0 size w := fun m os dk _ x y => by
  have hS : Below W0.heap.size W0 (Go.Proofs.sortWorld (encI blanks.length) w blk 0 m dk os) := below_sortW hb hblk hb.size
  exact (greedy1_any gj blanks ab cb x.1 y.1 _ (cell_keep hS hj) (hv.keep hS) hl x.2 y.2 hsz).mono fun e w' ⟨he, hb', hd⟩ => ⟨he, grow_of hb' hd⟩

set_option maxRecDepth 100000 in
set_option maxHeartbeats 400000 in
theorem sortBlanks_any (gj : Nat) (blanks : List Blank) [Inhabited (Ix blanks.length)] (ab : Option Addr) (cb blk cap : Nat) (d : Array (Ix blanks.length)) (W0 w : World) (hb : Below W0.heap.size W0 w) (hj : W0.cell? ⟨gj, 1, none⟩ = some (.slice ab blanks.length cb)) (hv : Blanks.V W0 ab blanks) (hl : blanks.length < 20)
    (hsz : ∀ x ∈ blanks, (1 ≤ x.length ∧ x.length ≤ 600000) ∧ (1 ≤ x.width ∧ x.width ≤ 600000)) (hblk : W0.heap.size ≤ blk) (hlt : blk < w.heap.size) (hH : Holds (encI blanks.length) w blk 0 d) (hd : d.size = blanks.length) :
    Calls Tryz.prog 75 #[.slice (some ⟨blk, 0, none⟩) d.size cap, .func (.func 76) #[] #[.pointer (some ⟨gj, 0, none⟩)]] w
      fun e w' => e = .returned (.tuple #[]) ∧ SW (encI blanks.length) w blk 0 (Sort.insertionSort (ltOf (cfI blanks)) d 0 d.size) w' := by
  have eg : ∀ args w, (callFunc 76 args).run Tryz.prog w = .ok (.enter 76 args) w := enters_of Tryz.func76 (by kernel_rfl) rfl
  have hS : SW (encI blanks.length) w blk 0 d w := SW.start hH
  have HC : Hid (Calls Tryz.prog 120 #[.slice (some ⟨blk, 0, none⟩) d.size cap, .int .i64 0, .int .i64 d.size, .func (.func 76) #[] #[.pointer (some ⟨gj, 0, none⟩)]] w fun e w' => e = .returned (.tuple #[]) ∧ SW (encI blanks.length) w blk 0 (Sort.insertionSort (ltOf (cfI blanks)) d 0 d.size) w') :=
    Lib.hid (Tryz.insertionSortCmpFunc_s (encI blanks.length) (cfI blanks) 76 #[.pointer (some ⟨gj, 0, none⟩)] blk 0 cap 0 d.size d d w w eg (cmpLaysB gj blanks ab cb blk d.size W0 w hb hj hv (by omega) hsz hblk) ⟨fun _ => rfl, hH, hlt⟩ rfl hS (Nat.zero_le _) (Nat.le_refl _) (by omega))
  have hn : (d.size : Int) < 20 := by omega
  clear hH hS hsz hv hj hd
  generalize SW (encI blanks.length) w blk 0 (Sort.insertionSort (ltOf (cfI blanks)) d 0 d.size) = S at *
  generalize d.size = n at *
  have HB : Calls Tryz.prog 106 #[.slice (some ⟨blk, 0, none⟩) n cap, .int .i64 n, .func (.func 76) #[] #[.pointer (some ⟨gj, 0, none⟩)]] w fun e w' => e = .returned (.tuple #[]) ∧ S w' := by
    go_enter Tryz.func106, Tryz.ntmps106
    go_wp2_with (first
      | (go_at_call 120; refine HC.out.mono ?_; rintro e w1 ⟨rfl, hs1⟩; have HS1 := Lib.hid hs1; clear hs1)
      | (with_reducible refine rounds_step ?_)
      | (with_reducible refine wp_loop_rounds 1 ?_))
    exact bodyPost_end (v := .tuple #[]) (by simp [results, Tryz.results106, go_sem]) rfl ⟨rfl, HS1.out⟩
  have HB := Lib.hid HB
  clear HC
  go_enter Tryz.func75, Tryz.ntmps75
  go_wp2_with (go_at_call 106; refine HB.out.mono ?_; rintro e w1 ⟨rfl, hs1⟩; have HS1 := Lib.hid hs1; clear hs1)
  exact bodyPost_end (v := .tuple #[]) (by simp [results, Tryz.results75, go_sem]) rfl ⟨rfl, HS1.out⟩
end Go.Proofs.YtpaindkfbgoogaaGreat
