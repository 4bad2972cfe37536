/- The library's contracts (the sort of numbers, Compact and a few more) at this translation's numbers, written by the kit's two programs. -/
import Derived.Shelf.Small.Bits
import Derived.Shelf.Strconv.Itoa0
import Derived.Shelf.Sort.Plain
import Derived.Ground.Names2Prog
import Derived.Shelf.Slices.SearchI
import Derived.Shelf.Slices.In.SortNone
import Derived.Ground.SlsfProg
import Derived.Shelf.SlSortCmp.Insertion
import Derived.Shelf.SlSortCmp.Insertion1
import Derived.Test.YtoelfalmmaddlaaProg
namespace Go.Proofs
open Go.Shelf
def Try.lays128_ren : Go.Shelf.Ren := ⟨fun | 128 => 61 | n => n, fun | 51 => 115 | 3 => 3 | 4 => 4 | 46 => 77 | 5 => 5 | 9 => 9 | n => n, fun | n => n⟩
theorem Try.lays128 : Go.Proofs.Lays.n128 Try.prog Try.lays128_ren := {
  mixed := by kernel_rfl
  f128 := Try.func61.trans (congrArg some (by kernel_rfl))
  t3 := Try.underlying3
  a3 := Try.isAgg3
  z3 := Try.sizeOf3
  v3 := Try.zeroValue3
  t4 := Try.underlying4
  a4 := Try.isAgg4
  z4 := Try.sizeOf4
  v4 := Try.zeroValue4
  t5 := Try.underlying5
  a5 := Try.isAgg5
  z5 := Try.sizeOf5
  v5 := Try.zeroValue5
  t9 := Try.underlying9
  a9 := Try.isAgg9
  z9 := Try.sizeOf9
  v9 := Try.zeroValue9
  t46 := Try.underlying77
  a46 := Try.isAgg77
  z46 := Try.sizeOf77
  v46 := Try.zeroValue77
  t51 := Try.underlying115
  a51 := Try.isAgg115
  z51 := Try.sizeOf115
  v51 := Try.zeroValue115 }
theorem Try.bits_Len32 (x : Int) (w : World) (h0 : 0 ≤ x) (h1 : x ≤ 4294967295) :
    Calls Try.prog 61 #[.int .u32 x] w fun e w' => e = .returned (.int .i64 (Lib.bitLen x.toNat)) ∧ w' = w := Any.bits_Len32 Try.lays128 x w h0 h1
def Try.lays125_ren : Go.Shelf.Ren := ⟨fun | 125 => 32 | 128 => 61 | 129 => 62 | n => n, fun | 46 => 77 | 3 => 3 | 51 => 115 | 53 => 117 | 4 => 4 | 5 => 5 | 9 => 9 | n => n, fun | n => n⟩
theorem Try.lays125 : Go.Proofs.Lays.n125 Try.prog Try.lays125_ren := {
  mixed := by kernel_rfl
  f125 := Try.func32.trans (congrArg some (by kernel_rfl))
  f128 := Try.func61.trans (congrArg some (by kernel_rfl))
  f129 := Try.func62.trans (congrArg some (by kernel_rfl))
  t3 := Try.underlying3
  a3 := Try.isAgg3
  z3 := Try.sizeOf3
  v3 := Try.zeroValue3
  t4 := Try.underlying4
  a4 := Try.isAgg4
  z4 := Try.sizeOf4
  v4 := Try.zeroValue4
  t5 := Try.underlying5
  a5 := Try.isAgg5
  z5 := Try.sizeOf5
  v5 := Try.zeroValue5
  t9 := Try.underlying9
  a9 := Try.isAgg9
  z9 := Try.sizeOf9
  v9 := Try.zeroValue9
  t46 := Try.underlying77
  a46 := Try.isAgg77
  z46 := Try.sizeOf77
  v46 := Try.zeroValue77
  t51 := Try.underlying115
  a51 := Try.isAgg115
  z51 := Try.sizeOf115
  v51 := Try.zeroValue115
  t53 := Try.underlying117
  a53 := Try.isAgg117
  z53 := Try.sizeOf117
  v53 := Try.zeroValue117 }
theorem Try.bits_Len (x : Int) (w : World) (h0 : 0 ≤ x) (h1 : x ≤ 18446744073709551615) :
    Calls Try.prog 32 #[.int .u64 x] w fun e w' => e = .returned (.int .i64 (Lib.bitLen x.toNat)) ∧ w' = w := Any.bits_Len Try.lays125 x w h0 h1
def Try.lays129_ren : Go.Shelf.Ren := ⟨fun | 129 => 62 | n => n, fun | 53 => 117 | 3 => 3 | 4 => 4 | 46 => 77 | 5 => 5 | 9 => 9 | n => n, fun | n => n⟩
theorem Try.lays129 : Go.Proofs.Lays.n129 Try.prog Try.lays129_ren := {
  mixed := by kernel_rfl
  f129 := Try.func62.trans (congrArg some (by kernel_rfl))
  t3 := Try.underlying3
  a3 := Try.isAgg3
  z3 := Try.sizeOf3
  v3 := Try.zeroValue3
  t4 := Try.underlying4
  a4 := Try.isAgg4
  z4 := Try.sizeOf4
  v4 := Try.zeroValue4
  t5 := Try.underlying5
  a5 := Try.isAgg5
  z5 := Try.sizeOf5
  v5 := Try.zeroValue5
  t9 := Try.underlying9
  a9 := Try.isAgg9
  z9 := Try.sizeOf9
  v9 := Try.zeroValue9
  t46 := Try.underlying77
  a46 := Try.isAgg77
  z46 := Try.sizeOf77
  v46 := Try.zeroValue77
  t53 := Try.underlying117
  a53 := Try.isAgg117
  z53 := Try.sizeOf117
  v53 := Try.zeroValue117 }
theorem Try.bits_Len64 (x : Int) (w : World) (h0 : 0 ≤ x) (h1 : x ≤ 18446744073709551615) :
    Calls Try.prog 62 #[.int .u64 x] w fun e w' => e = .returned (.int .i64 (Lib.bitLen x.toNat)) ∧ w' = w := Any.bits_Len64 Try.lays129 x w h0 h1
def Try.lays189_ren : Go.Shelf.Ren := ⟨fun | 189 => 18 | 125 => 32 | 257 => 31 | 128 => 61 | 129 => 62 | 294 => 52 | 295 => 53 | 296 => 54 | 297 => 55 | 298 => 56 | 299 => 57 | 216 => 58 | 300 => 59 | 301 => 60 | 328 => 73 | 329 => 74 | 330 => 75 | 331 => 76 | 332 => 77 | 215 => 51 | 343 => 82 | n => n, fun | 28 => 22 | 3 => 3 | 46 => 77 | 0 => 0 | 51 => 115 | 53 => 117 | 4 => 4 | 183 => 108 | 182 => 107 | 131 => 33 | 5 => 5 | 9 => 9 | 218 => 128 | 222 => 132 | 228 => 138 | 229 => 38 | n => n, fun | n => n⟩
theorem Try.lays189 : Go.Proofs.Lays.n189 Try.prog Try.lays189_ren := {
  mixed := by kernel_rfl
  f125 := Try.func32.trans (congrArg some (by kernel_rfl))
  f128 := Try.func61.trans (congrArg some (by kernel_rfl))
  f129 := Try.func62.trans (congrArg some (by kernel_rfl))
  f189 := Try.func18.trans (congrArg some (by kernel_rfl))
  f215 := Try.func51.trans (congrArg some (by kernel_rfl))
  f216 := Try.func58.trans (congrArg some (by kernel_rfl))
  f257 := Try.func31.trans (congrArg some (by kernel_rfl))
  f294 := Try.func52.trans (congrArg some (by kernel_rfl))
  f295 := Try.func53.trans (congrArg some (by kernel_rfl))
  f296 := Try.func54.trans (congrArg some (by kernel_rfl))
  f297 := Try.func55.trans (congrArg some (by kernel_rfl))
  f298 := Try.func56.trans (congrArg some (by kernel_rfl))
  f299 := Try.func57.trans (congrArg some (by kernel_rfl))
  f300 := Try.func59.trans (congrArg some (by kernel_rfl))
  f301 := Try.func60.trans (congrArg some (by kernel_rfl))
  f328 := Try.func73.trans (congrArg some (by kernel_rfl))
  f329 := Try.func74.trans (congrArg some (by kernel_rfl))
  f330 := Try.func75.trans (congrArg some (by kernel_rfl))
  f331 := Try.func76.trans (congrArg some (by kernel_rfl))
  f332 := Try.func77.trans (congrArg some (by kernel_rfl))
  f343 := Try.func82.trans (congrArg some (by kernel_rfl))
  t0 := Try.underlying0
  a0 := Try.isAgg0
  z0 := Try.sizeOf0
  v0 := Try.zeroValue0
  t3 := Try.underlying3
  a3 := Try.isAgg3
  z3 := Try.sizeOf3
  v3 := Try.zeroValue3
  t4 := Try.underlying4
  a4 := Try.isAgg4
  z4 := Try.sizeOf4
  v4 := Try.zeroValue4
  t5 := Try.underlying5
  a5 := Try.isAgg5
  z5 := Try.sizeOf5
  v5 := Try.zeroValue5
  t9 := Try.underlying9
  a9 := Try.isAgg9
  z9 := Try.sizeOf9
  v9 := Try.zeroValue9
  t28 := Try.underlying22
  a28 := Try.isAgg22
  z28 := Try.sizeOf22
  v28 := Try.zeroValue22
  t46 := Try.underlying77
  a46 := Try.isAgg77
  z46 := Try.sizeOf77
  v46 := Try.zeroValue77
  t51 := Try.underlying115
  a51 := Try.isAgg115
  z51 := Try.sizeOf115
  v51 := Try.zeroValue115
  t53 := Try.underlying117
  a53 := Try.isAgg117
  z53 := Try.sizeOf117
  v53 := Try.zeroValue117
  t131 := Try.underlying33
  a131 := Try.isAgg33
  z131 := Try.sizeOf33
  v131 := Try.zeroValue33
  t182 := Try.underlying107
  a182 := Try.isAgg107
  z182 := Try.sizeOf107
  v182 := Try.zeroValue107
  t183 := Try.underlying108
  a183 := Try.isAgg108
  z183 := Try.sizeOf108
  v183 := Try.zeroValue108
  t218 := Try.underlying128
  a218 := Try.isAgg128
  z218 := Try.sizeOf128
  v218 := Try.zeroValue128
  t222 := Try.underlying132
  a222 := Try.isAgg132
  z222 := Try.sizeOf132
  v222 := Try.zeroValue132
  t228 := Try.underlying138
  a228 := Try.isAgg138
  z228 := Try.sizeOf138
  v228 := Try.zeroValue138
  t229 := Try.underlying38
  a229 := Try.isAgg38
  z229 := Try.sizeOf38
  v229 := Try.zeroValue38 }
open Go.Sort Go.RowKit in
theorem Try.slices_Sort_int (blk off cap : Nat) (zs : List Int) (w : World) (hH : Holds (Value.int .i64) w blk off zs.toArray) (hblk : blk < w.heap.size) (hsz : zs.length < 4611686018427387904) :
    Calls Try.prog 18 #[.slice (some ⟨blk, off, none⟩) zs.length cap] w fun e w' =>
      e = .returned (.tuple #[]) ∧ ∃ n os, w' = grow (putRow (Value.int .i64) (Sort.ahead w n) blk off (zs.mergeSort fun x y => decide (x ≤ y)).toArray) os := Any.slices_Sort_int Try.lays189 blk off cap zs w hH hblk hsz
def Try.laysNm237_ren : Go.Shelf.Ren := ⟨fun | 37 => 51 | n => n, fun | 3 => 3 | 4 => 4 | n => n, fun | n => n⟩
theorem Try.laysNm237 : Go.Proofs.Lays2.n37 Try.prog Try.laysNm237_ren := {
  mixed := by kernel_rfl
  f37 := Try.func51.trans (congrArg some (by kernel_rfl))
  t3 := Try.underlying3
  a3 := Try.isAgg3
  z3 := Try.sizeOf3
  v3 := Try.zeroValue3
  t4 := Try.underlying4
  a4 := Try.isAgg4
  z4 := Try.sizeOf4
  v4 := Try.zeroValue4 }
open Go.RowKit Go.Lib in
theorem Try.cmp_isNaN_int2 (x : Int) (w : World) :
    Calls Try.prog 51 #[.int .i64 x] w fun e w' => e = .returned (.bool false) ∧ w' = w := Any.cmp_isNaN_int2 Try.laysNm237 x w
def Try.laysNm231_ren : Go.Shelf.Ren := ⟨fun | 31 => 58 | 37 => 51 | n => n, fun | 3 => 3 | 4 => 4 | n => n, fun | n => n⟩
theorem Try.laysNm231 : Go.Proofs.Lays2.n31 Try.prog Try.laysNm231_ren := {
  mixed := by kernel_rfl
  f31 := Try.func58.trans (congrArg some (by kernel_rfl))
  f37 := Try.func51.trans (congrArg some (by kernel_rfl))
  t3 := Try.underlying3
  a3 := Try.isAgg3
  z3 := Try.sizeOf3
  v3 := Try.zeroValue3
  t4 := Try.underlying4
  a4 := Try.isAgg4
  z4 := Try.sizeOf4
  v4 := Try.zeroValue4 }
open Go.RowKit Go.Lib in
theorem Try.cmp_Less_int2 (x y : Int) (w : World) :
    Calls Try.prog 58 #[.int .i64 x, .int .i64 y] w fun e w' => e = .returned (.bool (decide (x < y))) ∧ w' = w := Any.cmp_Less_int2 Try.laysNm231 x y w
open Go.RowKit Go.Sort in
theorem Try.slices_Sort_int_none (p : Option Addr) (cap : Nat) (w : World) :
    Calls Try.prog 18 #[.slice p 0 cap] w fun e w' => e = .returned (.tuple #[]) ∧ w' = w := Any.slices_Sort_int_none Try.lays189 p cap w
def Try.laysSlF20_f71_ren : Go.Shelf.Ren := ⟨fun | 20 => 71 | n => n, fun | 24 => 3 | 22 => 22 | 3 => 3 | 25 => 74 | 4 => 4 | 0 => 0 | n => n, fun | n => n⟩
theorem Try.laysSlF20_f71 : Go.Proofs.SlLaysF.n20 Try.prog Try.laysSlF20_f71_ren := {
  mixed := by kernel_rfl
  f20 := ⟨Try.f71.name, by decide, Try.func71.trans (congrArg some (by kernel_rfl))⟩
  t0 := Try.underlying0
  a0 := Try.isAgg0
  z0 := Try.sizeOf0
  v0 := Try.zeroValue0
  t3 := Try.underlying3
  a3 := Try.isAgg3
  z3 := Try.sizeOf3
  v3 := Try.zeroValue3
  t4 := Try.underlying4
  a4 := Try.isAgg4
  z4 := Try.sizeOf4
  v4 := Try.zeroValue4
  t22 := Try.underlying22
  a22 := Try.isAgg22
  z22 := Try.sizeOf22
  v22 := Try.zeroValue22
  a24 := Try.isAgg3
  z24 := Try.sizeOf3
  t25 := Try.underlying74
  a25 := Try.isAgg74
  z25 := Try.sizeOf74
  v25 := Try.zeroValue74 }
open Go.RowKit Go.Lib Go.Sort in
theorem Try.insertionSortCmpFunc_one {α : Type} [Inhabited α] (enc : α → Value) (hO : OneCell enc) (cf : α → α → Int) (g : Nat) (cb : Array Value) (blk off cap a b : Nat) (d : Array α) (w : World) (eg : ∀ args w, (callFunc g args).run Try.prog w = .ok (.enter g args) w) (hcmp : CmpReads Try.prog g cb enc cf blk off d.size w) (hH : Holds enc w blk off d) (hab : a ≤ b) (hb : b ≤ d.size) (hsz : d.size < 4611686018427387904) :
    Calls Try.prog 71 #[.slice (some ⟨blk, off, none⟩) d.size cap, .int .i64 a, .int .i64 b, .func (.func g) #[] cb] w fun e w' =>
      e = .returned (.tuple #[]) ∧ ∃ n, w' = (putRow enc w blk off (Sort.insertionSort (ltOf cf) d a b)).drewN n := Any.insertionSortCmpFunc_one Try.laysSlF20_f71 enc hO cf g cb blk off cap a b d w eg hcmp hH hab hb hsz
open Go.RowKit Go.Lib Go.Sort in
theorem Try.insertionSortCmpFunc_s {α : Type} [Inhabited α] (enc : α → Value) (cf : α → α → Int) (g : Nat) (cb : Array Value) (blk off cap a b : Nat) (d0 d : Array α) (w0 w : World) (eg : ∀ args w, (callFunc g args).run Try.prog w = .ok (.enter g args) w) (hcmp : CmpLays1 Try.prog g cb enc cf blk off d0.size w0) (R : Row1 enc w0 blk off d0) (hs : d0.size = d.size) (S : SW enc w0 blk off d w) (hab : a ≤ b) (hb : b ≤ d.size) (hsz : d.size < 4611686018427387904) :
    Calls Try.prog 71 #[.slice (some ⟨blk, off, none⟩) d.size cap, .int .i64 a, .int .i64 b, .func (.func g) #[] cb] w fun e w' => e = .returned (.tuple #[]) ∧ SW enc w0 blk off (Sort.insertionSort (ltOf cf) d a b) w' := Any.insertionSortCmpFunc_s Try.laysSlF20_f71 enc cf g cb blk off cap a b d0 d w0 w eg hcmp R hs S hab hb hsz
end Go.Proofs
