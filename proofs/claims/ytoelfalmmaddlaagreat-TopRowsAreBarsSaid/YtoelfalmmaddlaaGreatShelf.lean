/- The library's contracts (the sort of numbers, Compact and a few more) at this translation's numbers, written by the kit's two programs. -/
import Derived.Shelf.Small.Bits
import Derived.Shelf.Strconv.Itoa0
import Derived.Shelf.Sort.Plain
import Derived.Ground.Names2Prog
import Derived.Shelf.Slices.SearchI
import Derived.Shelf.Slices.In.SortNone
import Derived.Ground.SlsfProg
import Derived.Shelf.SlSortCmp.Insertion
import Derived.Shelf.SlSortCmp.Insertion1
import Derived.Test.YtoelfalmmaddlaaGreatProg
namespace Go.Proofs
open Go.Shelf
def Tryz.lays189_ren : Go.Shelf.Ren := ⟨fun | 189 => 34 | 125 => 64 | 257 => 63 | 128 => 89 | 129 => 90 | 294 => 80 | 295 => 81 | 296 => 82 | 297 => 83 | 298 => 84 | 299 => 85 | 216 => 86 | 300 => 87 | 301 => 88 | 328 => 98 | 329 => 99 | 330 => 100 | 331 => 101 | 332 => 102 | 215 => 69 | 343 => 108 | n => n, fun | 28 => 44 | 3 => 3 | 46 => 127 | 0 => 0 | 51 => 153 | 53 => 155 | 4 => 4 | 183 => 145 | 182 => 144 | 131 => 150 | 5 => 5 | 9 => 9 | 218 => 162 | 222 => 166 | 228 => 170 | 229 => 135 | n => n, fun | n => n⟩
theorem Tryz.lays189 : Go.Proofs.Lays.n189 Tryz.prog Tryz.lays189_ren := {
 mixed := by kernel_rfl
 f125 := Tryz.func64.trans (congrArg some (by kernel_rfl))
 f128 := Tryz.func89.trans (congrArg some (by kernel_rfl))
 f129 := Tryz.func90.trans (congrArg some (by kernel_rfl))
 f189 := Tryz.func34.trans (congrArg some (by kernel_rfl))
 f215 := Tryz.func69.trans (congrArg some (by kernel_rfl))
 f216 := Tryz.func86.trans (congrArg some (by kernel_rfl))
 f257 := Tryz.func63.trans (congrArg some (by kernel_rfl))
 f294 := Tryz.func80.trans (congrArg some (by kernel_rfl))
 f295 := Tryz.func81.trans (congrArg some (by kernel_rfl))
 f296 := Tryz.func82.trans (congrArg some (by kernel_rfl))
 f297 := Tryz.func83.trans (congrArg some (by kernel_rfl))
 f298 := Tryz.func84.trans (congrArg some (by kernel_rfl))
 f299 := Tryz.func85.trans (congrArg some (by kernel_rfl))
 f300 := Tryz.func87.trans (congrArg some (by kernel_rfl))
 f301 := Tryz.func88.trans (congrArg some (by kernel_rfl))
 f328 := Tryz.func98.trans (congrArg some (by kernel_rfl))
 f329 := Tryz.func99.trans (congrArg some (by kernel_rfl))
 f330 := Tryz.func100.trans (congrArg some (by kernel_rfl))
 f331 := Tryz.func101.trans (congrArg some (by kernel_rfl))
 f332 := Tryz.func102.trans (congrArg some (by kernel_rfl))
 f343 := Tryz.func108.trans (congrArg some (by kernel_rfl))
 t0 := Tryz.underlying0
 a0 := Tryz.isAgg0
 z0 := Tryz.sizeOf0
 v0 := Tryz.zeroValue0
 t3 := Tryz.underlying3
 a3 := Tryz.isAgg3
 z3 := Tryz.sizeOf3
 v3 := Tryz.zeroValue3
 t4 := Tryz.underlying4
 a4 := Tryz.isAgg4
 z4 := Tryz.sizeOf4
 v4 := Tryz.zeroValue4
 t5 := Tryz.underlying5
 a5 := Tryz.isAgg5
 z5 := Tryz.sizeOf5
 v5 := Tryz.zeroValue5
 t9 := Tryz.underlying9
 a9 := Tryz.isAgg9
 z9 := Tryz.sizeOf9
 v9 := Tryz.zeroValue9
 t28 := Tryz.underlying44
 a28 := Tryz.isAgg44
 z28 := Tryz.sizeOf44
 v28 := Tryz.zeroValue44
 t46 := Tryz.underlying127
 a46 := Tryz.isAgg127
 z46 := Tryz.sizeOf127
 v46 := Tryz.zeroValue127
 t51 := Tryz.underlying153
 a51 := Tryz.isAgg153
 z51 := Tryz.sizeOf153
 v51 := Tryz.zeroValue153
 t53 := Tryz.underlying155
 a53 := Tryz.isAgg155
 z53 := Tryz.sizeOf155
 v53 := Tryz.zeroValue155
 t131 := Tryz.underlying150
 a131 := Tryz.isAgg150
 z131 := Tryz.sizeOf150
 v131 := Tryz.zeroValue150
 t182 := Tryz.underlying144
 a182 := Tryz.isAgg144
 z182 := Tryz.sizeOf144
 v182 := Tryz.zeroValue144
 t183 := Tryz.underlying145
 a183 := Tryz.isAgg145
 z183 := Tryz.sizeOf145
 v183 := Tryz.zeroValue145
 t218 := Tryz.underlying162
 a218 := Tryz.isAgg162
 z218 := Tryz.sizeOf162
 v218 := Tryz.zeroValue162
 t222 := Tryz.underlying166
 a222 := Tryz.isAgg166
 z222 := Tryz.sizeOf166
 v222 := Tryz.zeroValue166
 t228 := Tryz.underlying170
 a228 := Tryz.isAgg170
 z228 := Tryz.sizeOf170
 v228 := Tryz.zeroValue170
 t229 := Tryz.underlying135
 a229 := Tryz.isAgg135
 z229 := Tryz.sizeOf135
 v229 := Tryz.zeroValue135 }
open Go.Sort Go.RowKit in
theorem Tryz.slices_Sort_int (blk off cap : Nat) (zs : List Int) (w : World) (hH : Holds (Value.int .i64) w blk off zs.toArray) (hblk : blk < w.heap.size) (hsz : zs.length < 4611686018427387904) :
    Calls Tryz.prog 34 #[.slice (some ⟨blk, off, none⟩) zs.length cap] w fun e w' =>
     e = .returned (.tuple #[]) ∧ ∃ n os, w' = grow (putRow (Value.int .i64) (Sort.ahead w n) blk off (zs.mergeSort fun x y => decide (x ≤ y)).toArray) os := Any.slices_Sort_int Tryz.lays189 blk off cap zs w hH hblk hsz
open Go.RowKit Go.Sort in
theorem Tryz.slices_Sort_int_none (p : Option Addr) (cap : Nat) (w : World) :
    Calls Tryz.prog 34 #[.slice p 0 cap] w fun e w' => e = .returned (.tuple #[]) ∧ w' = w := Any.slices_Sort_int_none Tryz.lays189 p cap w
def Tryz.laysSlF20_f92_ren : Go.Shelf.Ren := ⟨fun | 20 => 92 | n => n, fun | 24 => 3 | 22 => 44 | 3 => 3 | 25 => 105 | 4 => 4 | 0 => 0 | n => n, fun | n => n⟩
theorem Tryz.laysSlF20_f92 : Go.Proofs.SlLaysF.n20 Tryz.prog Tryz.laysSlF20_f92_ren := {
 mixed := by kernel_rfl
 f20 := ⟨Tryz.f92.name, by decide, Tryz.func92.trans (congrArg some (by kernel_rfl))⟩
 t0 := Tryz.underlying0
 a0 := Tryz.isAgg0
 z0 := Tryz.sizeOf0
 v0 := Tryz.zeroValue0
 t3 := Tryz.underlying3
 a3 := Tryz.isAgg3
 z3 := Tryz.sizeOf3
 v3 := Tryz.zeroValue3
 t4 := Tryz.underlying4
 a4 := Tryz.isAgg4
 z4 := Tryz.sizeOf4
 v4 := Tryz.zeroValue4
 t22 := Tryz.underlying44
 a22 := Tryz.isAgg44
 z22 := Tryz.sizeOf44
 v22 := Tryz.zeroValue44
 a24 := Tryz.isAgg3
 z24 := Tryz.sizeOf3
 t25 := Tryz.underlying105
 a25 := Tryz.isAgg105
 z25 := Tryz.sizeOf105
 v25 := Tryz.zeroValue105 }
open Go.RowKit Go.Lib Go.Sort in
theorem Tryz.insertionSortCmpFunc_s {α : Type} [Inhabited α] (enc : α → Value) (cf : α → α → Int) (g : Nat) (cb : Array Value) (blk off cap a b : Nat) (d0 d : Array α) (w0 w : World) (eg : ∀ args w, (callFunc g args).run Tryz.prog w = .ok (.enter g args) w) (hcmp : CmpLays1 Tryz.prog g cb enc cf blk off d0.size w0) (R : Row1 enc w0 blk off d0) (hs : d0.size = d.size) (S : SW enc w0 blk off d w) (hab : a ≤ b) (hb : b ≤ d.size) (hsz : d.size < 4611686018427387904) :
    Calls Tryz.prog 92 #[.slice (some ⟨blk, off, none⟩) d.size cap, .int .i64 a, .int .i64 b, .func (.func g) #[] cb] w fun e w' => e = .returned (.tuple #[]) ∧ SW enc w0 blk off (Sort.insertionSort (ltOf cf) d a b) w' := Any.insertionSortCmpFunc_s Tryz.laysSlF20_f92 enc cf g cb blk off cap a b d0 d w0 w eg hcmp R hs S hab hb hsz
end Go.Proofs
