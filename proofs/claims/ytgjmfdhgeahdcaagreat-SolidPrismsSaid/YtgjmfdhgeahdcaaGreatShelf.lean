/- The library's contracts (the sort of numbers, Compact and a few more) at this translation's numbers, written by the kit's two programs. -/
import Derived.Shelf.Small.Bits
import Derived.Shelf.Strconv.Itoa0
import Derived.Shelf.Sort.Plain
import Derived.Ground.Names2Prog
import Derived.Shelf.Slices.CompactI
import Derived.Shelf.Slices.SearchI
import Derived.Shelf.Slices.Cells
import Derived.Shelf.Slices.In.SortNone
import Derived.Test.YtgjmfdhgeahdcaaGreatProg
namespace Go.Proofs
open Go.Shelf
def Tryz.lays125_ren : Go.Shelf.Ren := ⟨fun | 125 => 76 | 128 => 104 | 129 => 105 | n => n, fun | 46 => 123 | 3 => 3 | 51 => 149 | 53 => 151 | 4 => 4 | 5 => 5 | 9 => 9 | n => n, fun | n => n⟩
theorem Tryz.lays125 : Go.Proofs.Lays.n125 Tryz.prog Tryz.lays125_ren := {
 mixed := by kernel_rfl
 f125 := Tryz.func76.trans (congrArg some (by kernel_rfl))
 f128 := Tryz.func104.trans (congrArg some (by kernel_rfl))
 f129 := Tryz.func105.trans (congrArg some (by kernel_rfl))
 t3 := Tryz.underlying3
 a3 := Tryz.isAgg3
 z3 := Tryz.sizeOf3
 v3 := Tryz.zeroValue3
 t4 := Tryz.underlying4
 a4 := Tryz.isAgg4
 z4 := Tryz.sizeOf4
 v4 := Tryz.zeroValue4
 t5 := Tryz.underlying5
 a5 := Tryz.isAgg5
 z5 := Tryz.sizeOf5
 v5 := Tryz.zeroValue5
 t9 := Tryz.underlying9
 a9 := Tryz.isAgg9
 z9 := Tryz.sizeOf9
 v9 := Tryz.zeroValue9
 t46 := Tryz.underlying123
 a46 := Tryz.isAgg123
 z46 := Tryz.sizeOf123
 v46 := Tryz.zeroValue123
 t51 := Tryz.underlying149
 a51 := Tryz.isAgg149
 z51 := Tryz.sizeOf149
 v51 := Tryz.zeroValue149
 t53 := Tryz.underlying151
 a53 := Tryz.isAgg151
 z53 := Tryz.sizeOf151
 v53 := Tryz.zeroValue151 }
theorem Tryz.bits_Len (x : Int) (w : World) (h0 : 0 ≤ x) (h1 : x ≤ 18446744073709551615) :
    Calls Tryz.prog 76 #[.int .u64 x] w fun e w' => e = .returned (.int .i64 (Lib.bitLen x.toNat)) ∧ w' = w := Any.bits_Len Tryz.lays125 x w h0 h1
def Tryz.lays189_ren : Go.Shelf.Ren := ⟨fun | 189 => 44 | 125 => 76 | 257 => 75 | 128 => 104 | 129 => 105 | 294 => 95 | 295 => 96 | 296 => 97 | 297 => 98 | 298 => 99 | 299 => 100 | 216 => 101 | 300 => 102 | 301 => 103 | 328 => 136 | 329 => 137 | 330 => 138 | 331 => 139 | 332 => 140 | 215 => 127 | 343 => 150 | n => n, fun | 28 => 63 | 3 => 3 | 46 => 123 | 0 => 0 | 51 => 149 | 53 => 151 | 4 => 4 | 183 => 141 | 182 => 140 | 131 => 146 | 5 => 5 | 9 => 9 | 218 => 171 | 222 => 175 | 228 => 183 | 229 => 184 | n => n, fun | n => n⟩
theorem Tryz.lays189 : Go.Proofs.Lays.n189 Tryz.prog Tryz.lays189_ren := {
 mixed := by kernel_rfl
 f125 := Tryz.func76.trans (congrArg some (by kernel_rfl))
 f128 := Tryz.func104.trans (congrArg some (by kernel_rfl))
 f129 := Tryz.func105.trans (congrArg some (by kernel_rfl))
 f189 := Tryz.func44.trans (congrArg some (by kernel_rfl))
 f215 := Tryz.func127.trans (congrArg some (by kernel_rfl))
 f216 := Tryz.func101.trans (congrArg some (by kernel_rfl))
 f257 := Tryz.func75.trans (congrArg some (by kernel_rfl))
 f294 := Tryz.func95.trans (congrArg some (by kernel_rfl))
 f295 := Tryz.func96.trans (congrArg some (by kernel_rfl))
 f296 := Tryz.func97.trans (congrArg some (by kernel_rfl))
 f297 := Tryz.func98.trans (congrArg some (by kernel_rfl))
 f298 := Tryz.func99.trans (congrArg some (by kernel_rfl))
 f299 := Tryz.func100.trans (congrArg some (by kernel_rfl))
 f300 := Tryz.func102.trans (congrArg some (by kernel_rfl))
 f301 := Tryz.func103.trans (congrArg some (by kernel_rfl))
 f328 := Tryz.func136.trans (congrArg some (by kernel_rfl))
 f329 := Tryz.func137.trans (congrArg some (by kernel_rfl))
 f330 := Tryz.func138.trans (congrArg some (by kernel_rfl))
 f331 := Tryz.func139.trans (congrArg some (by kernel_rfl))
 f332 := Tryz.func140.trans (congrArg some (by kernel_rfl))
 f343 := Tryz.func150.trans (congrArg some (by kernel_rfl))
 t0 := Tryz.underlying0
 a0 := Tryz.isAgg0
 z0 := Tryz.sizeOf0
 v0 := Tryz.zeroValue0
 t3 := Tryz.underlying3
 a3 := Tryz.isAgg3
 z3 := Tryz.sizeOf3
 v3 := Tryz.zeroValue3
 t4 := Tryz.underlying4
 a4 := Tryz.isAgg4
 z4 := Tryz.sizeOf4
 v4 := Tryz.zeroValue4
 t5 := Tryz.underlying5
 a5 := Tryz.isAgg5
 z5 := Tryz.sizeOf5
 v5 := Tryz.zeroValue5
 t9 := Tryz.underlying9
 a9 := Tryz.isAgg9
 z9 := Tryz.sizeOf9
 v9 := Tryz.zeroValue9
 t28 := Tryz.underlying63
 a28 := Tryz.isAgg63
 z28 := Tryz.sizeOf63
 v28 := Tryz.zeroValue63
 t46 := Tryz.underlying123
 a46 := Tryz.isAgg123
 z46 := Tryz.sizeOf123
 v46 := Tryz.zeroValue123
 t51 := Tryz.underlying149
 a51 := Tryz.isAgg149
 z51 := Tryz.sizeOf149
 v51 := Tryz.zeroValue149
 t53 := Tryz.underlying151
 a53 := Tryz.isAgg151
 z53 := Tryz.sizeOf151
 v53 := Tryz.zeroValue151
 t131 := Tryz.underlying146
 a131 := Tryz.isAgg146
 z131 := Tryz.sizeOf146
 v131 := Tryz.zeroValue146
 t182 := Tryz.underlying140
 a182 := Tryz.isAgg140
 z182 := Tryz.sizeOf140
 v182 := Tryz.zeroValue140
 t183 := Tryz.underlying141
 a183 := Tryz.isAgg141
 z183 := Tryz.sizeOf141
 v183 := Tryz.zeroValue141
 t218 := Tryz.underlying171
 a218 := Tryz.isAgg171
 z218 := Tryz.sizeOf171
 v218 := Tryz.zeroValue171
 t222 := Tryz.underlying175
 a222 := Tryz.isAgg175
 z222 := Tryz.sizeOf175
 v222 := Tryz.zeroValue175
 t228 := Tryz.underlying183
 a228 := Tryz.isAgg183
 z228 := Tryz.sizeOf183
 v228 := Tryz.zeroValue183
 t229 := Tryz.underlying184
 a229 := Tryz.isAgg184
 z229 := Tryz.sizeOf184
 v229 := Tryz.zeroValue184 }
open Go.Sort Go.RowKit in
theorem Tryz.slices_Sort_int (blk off cap : Nat) (zs : List Int) (w : World) (hH : Holds (Value.int .i64) w blk off zs.toArray) (hblk : blk < w.heap.size) (hsz : zs.length < 4611686018427387904) :
    Calls Tryz.prog 44 #[.slice (some ⟨blk, off, none⟩) zs.length cap] w fun e w' =>
     e = .returned (.tuple #[]) ∧ ∃ n os, w' = grow (putRow (Value.int .i64) (Sort.ahead w n) blk off (zs.mergeSort fun x y => decide (x ≤ y)).toArray) os := Any.slices_Sort_int Tryz.lays189 blk off cap zs w hH hblk hsz
def Tryz.laysNm220_ren : Go.Shelf.Ren := ⟨fun | 20 => 45 | n => n, fun | 22 => 63 | 3 => 3 | 4 => 4 | 0 => 0 | n => n, fun | n => n⟩
theorem Tryz.laysNm220 : Go.Proofs.Lays2.n20 Tryz.prog Tryz.laysNm220_ren := {
 mixed := by kernel_rfl
 f20 := Tryz.func45.trans (congrArg some (by kernel_rfl))
 t0 := Tryz.underlying0
 a0 := Tryz.isAgg0
 z0 := Tryz.sizeOf0
 v0 := Tryz.zeroValue0
 t3 := Tryz.underlying3
 a3 := Tryz.isAgg3
 z3 := Tryz.sizeOf3
 v3 := Tryz.zeroValue3
 t4 := Tryz.underlying4
 a4 := Tryz.isAgg4
 z4 := Tryz.sizeOf4
 v4 := Tryz.zeroValue4
 t22 := Tryz.underlying63
 a22 := Tryz.isAgg63
 z22 := Tryz.sizeOf63
 v22 := Tryz.zeroValue63
 i3 := by kernel_rfl }
open Go.RowKit Go.Lib Go.Sort in
theorem Tryz.slices_Compact_int (blk off cap : Nat) (zs : List Int) (w : World) (hH : Holds (Value.int .i64) w blk off zs.toArray) (hsz : zs.length ≤ 9223372036854775807) (hcap : zs.length ≤ cap) :
    Calls Tryz.prog 45 #[.slice (some ⟨blk, off, none⟩) zs.length cap] w fun e w' => e = .returned (.slice (some ⟨blk, off, none⟩) (Lib.compact zs).length cap) ∧ ∃ q, w' = putRow (Value.int .i64) (Sort.ahead w q) blk off (Lib.compact zs ++ List.replicate (zs.length - (Lib.compact zs).length) 0).toArray := Any.slices_Compact_int Tryz.laysNm220 blk off cap zs w hH hsz hcap
open Go.RowKit Go.Lib Go.Sort in
theorem Tryz.slices_Compact_int_empty (a : Option Addr) (cap : Nat) (w : World) :
    Calls Tryz.prog 45 #[.slice a 0 cap] w fun e w' => e = .returned (.slice a 0 cap) ∧ w' = w := Any.slices_Compact_int_empty Tryz.laysNm220 a cap w
open Go.RowKit Go.Sort in
theorem Tryz.slices_Sort_int_none (p : Option Addr) (cap : Nat) (w : World) :
    Calls Tryz.prog 44 #[.slice p 0 cap] w fun e w' => e = .returned (.tuple #[]) ∧ w' = w := Any.slices_Sort_int_none Tryz.lays189 p cap w
end Go.Proofs
