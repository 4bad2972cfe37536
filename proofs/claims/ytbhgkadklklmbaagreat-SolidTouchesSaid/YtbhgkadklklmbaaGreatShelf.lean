/- The library's contracts (the sort of numbers, Compact and a few more) at this translation's numbers, written by the kit's two programs. -/
import Derived.Shelf.Small.Bits
import Derived.Shelf.Strconv.Itoa0
import Derived.Shelf.Sort.Plain
import Derived.Ground.Names2Prog
import Derived.Shelf.Slices.CompactI
import Derived.Shelf.Slices.SearchI
import Derived.Shelf.Slices.Cells
import Derived.Shelf.Slices.In.SortNone
import Derived.Test.YtbhgkadklklmbaaGreatProg
namespace Go.Proofs
open Go.Shelf
def Tryz.lays125_ren : Go.Shelf.Ren := ⟨fun | 125 => 181 | 128 => 201 | 129 => 202 | n => n, fun | 46 => 219 | 3 => 3 | 51 => 238 | 53 => 240 | 4 => 4 | 5 => 5 | 9 => 9 | n => n, fun | n => n⟩
theorem Tryz.lays125 : Go.Proofs.Lays.n125 Tryz.prog Tryz.lays125_ren := {
 mixed := by kernel_rfl
 f125 := Tryz.func181.trans (congrArg some (by kernel_rfl))
 f128 := Tryz.func201.trans (congrArg some (by kernel_rfl))
 f129 := Tryz.func202.trans (congrArg some (by kernel_rfl))
 t3 := Tryz.underlying3
 a3 := Tryz.isAgg3
 z3 := Tryz.sizeOf3
 v3 := Tryz.zeroValue3
 t4 := Tryz.underlying4
 a4 := Tryz.isAgg4
 z4 := Tryz.sizeOf4
 v4 := Tryz.zeroValue4
 t5 := Tryz.underlying5
 a5 := Tryz.isAgg5
 z5 := Tryz.sizeOf5
 v5 := Tryz.zeroValue5
 t9 := Tryz.underlying9
 a9 := Tryz.isAgg9
 z9 := Tryz.sizeOf9
 v9 := Tryz.zeroValue9
 t46 := Tryz.underlying219
 a46 := Tryz.isAgg219
 z46 := Tryz.sizeOf219
 v46 := Tryz.zeroValue219
 t51 := Tryz.underlying238
 a51 := Tryz.isAgg238
 z51 := Tryz.sizeOf238
 v51 := Tryz.zeroValue238
 t53 := Tryz.underlying240
 a53 := Tryz.isAgg240
 z53 := Tryz.sizeOf240
 v53 := Tryz.zeroValue240 }
theorem Tryz.bits_Len (x : Int) (w : World) (h0 : 0 ≤ x) (h1 : x ≤ 18446744073709551615) :
    Calls Tryz.prog 181 #[.int .u64 x] w fun e w' => e = .returned (.int .i64 (Lib.bitLen x.toNat)) ∧ w' = w := Any.bits_Len Tryz.lays125 x w h0 h1
def Tryz.lays189_ren : Go.Shelf.Ren := ⟨fun | 189 => 155 | 125 => 181 | 257 => 186 | 128 => 201 | 129 => 202 | 294 => 203 | 295 => 204 | 296 => 205 | 297 => 206 | 298 => 207 | 299 => 208 | 216 => 209 | 300 => 210 | 301 => 211 | 328 => 233 | 329 => 229 | 330 => 230 | 331 => 234 | 332 => 235 | 215 => 185 | 343 => 243 | n => n, fun | 28 => 147 | 3 => 3 | 46 => 219 | 0 => 0 | 51 => 238 | 53 => 240 | 4 => 4 | 183 => 231 | 182 => 230 | 131 => 235 | 5 => 5 | 9 => 9 | 218 => 257 | 222 => 261 | 228 => 269 | 229 => 70 | n => n, fun | n => n⟩
theorem Tryz.lays189 : Go.Proofs.Lays.n189 Tryz.prog Tryz.lays189_ren := {
 mixed := by kernel_rfl
 f125 := Tryz.func181.trans (congrArg some (by kernel_rfl))
 f128 := Tryz.func201.trans (congrArg some (by kernel_rfl))
 f129 := Tryz.func202.trans (congrArg some (by kernel_rfl))
 f189 := Tryz.func155.trans (congrArg some (by kernel_rfl))
 f215 := Tryz.func185.trans (congrArg some (by kernel_rfl))
 f216 := Tryz.func209.trans (congrArg some (by kernel_rfl))
 f257 := Tryz.func186.trans (congrArg some (by kernel_rfl))
 f294 := Tryz.func203.trans (congrArg some (by kernel_rfl))
 f295 := Tryz.func204.trans (congrArg some (by kernel_rfl))
 f296 := Tryz.func205.trans (congrArg some (by kernel_rfl))
 f297 := Tryz.func206.trans (congrArg some (by kernel_rfl))
 f298 := Tryz.func207.trans (congrArg some (by kernel_rfl))
 f299 := Tryz.func208.trans (congrArg some (by kernel_rfl))
 f300 := Tryz.func210.trans (congrArg some (by kernel_rfl))
 f301 := Tryz.func211.trans (congrArg some (by kernel_rfl))
 f328 := Tryz.func233.trans (congrArg some (by kernel_rfl))
 f329 := Tryz.func229.trans (congrArg some (by kernel_rfl))
 f330 := Tryz.func230.trans (congrArg some (by kernel_rfl))
 f331 := Tryz.func234.trans (congrArg some (by kernel_rfl))
 f332 := Tryz.func235.trans (congrArg some (by kernel_rfl))
 f343 := Tryz.func243.trans (congrArg some (by kernel_rfl))
 t0 := Tryz.underlying0
 a0 := Tryz.isAgg0
 z0 := Tryz.sizeOf0
 v0 := Tryz.zeroValue0
 t3 := Tryz.underlying3
 a3 := Tryz.isAgg3
 z3 := Tryz.sizeOf3
 v3 := Tryz.zeroValue3
 t4 := Tryz.underlying4
 a4 := Tryz.isAgg4
 z4 := Tryz.sizeOf4
 v4 := Tryz.zeroValue4
 t5 := Tryz.underlying5
 a5 := Tryz.isAgg5
 z5 := Tryz.sizeOf5
 v5 := Tryz.zeroValue5
 t9 := Tryz.underlying9
 a9 := Tryz.isAgg9
 z9 := Tryz.sizeOf9
 v9 := Tryz.zeroValue9
 t28 := Tryz.underlying147
 a28 := Tryz.isAgg147
 z28 := Tryz.sizeOf147
 v28 := Tryz.zeroValue147
 t46 := Tryz.underlying219
 a46 := Tryz.isAgg219
 z46 := Tryz.sizeOf219
 v46 := Tryz.zeroValue219
 t51 := Tryz.underlying238
 a51 := Tryz.isAgg238
 z51 := Tryz.sizeOf238
 v51 := Tryz.zeroValue238
 t53 := Tryz.underlying240
 a53 := Tryz.isAgg240
 z53 := Tryz.sizeOf240
 v53 := Tryz.zeroValue240
 t131 := Tryz.underlying235
 a131 := Tryz.isAgg235
 z131 := Tryz.sizeOf235
 v131 := Tryz.zeroValue235
 t182 := Tryz.underlying230
 a182 := Tryz.isAgg230
 z182 := Tryz.sizeOf230
 v182 := Tryz.zeroValue230
 t183 := Tryz.underlying231
 a183 := Tryz.isAgg231
 z183 := Tryz.sizeOf231
 v183 := Tryz.zeroValue231
 t218 := Tryz.underlying257
 a218 := Tryz.isAgg257
 z218 := Tryz.sizeOf257
 v218 := Tryz.zeroValue257
 t222 := Tryz.underlying261
 a222 := Tryz.isAgg261
 z222 := Tryz.sizeOf261
 v222 := Tryz.zeroValue261
 t228 := Tryz.underlying269
 a228 := Tryz.isAgg269
 z228 := Tryz.sizeOf269
 v228 := Tryz.zeroValue269
 t229 := Tryz.underlying70
 a229 := Tryz.isAgg70
 z229 := Tryz.sizeOf70
 v229 := Tryz.zeroValue70 }
open Go.Sort Go.RowKit in
theorem Tryz.slices_Sort_int (blk off cap : Nat) (zs : List Int) (w : World) (hH : Holds (Value.int .i64) w blk off zs.toArray) (hblk : blk < w.heap.size) (hsz : zs.length < 4611686018427387904) :
    Calls Tryz.prog 155 #[.slice (some ⟨blk, off, none⟩) zs.length cap] w fun e w' =>
     e = .returned (.tuple #[]) ∧ ∃ n os, w' = grow (putRow (Value.int .i64) (Sort.ahead w n) blk off (zs.mergeSort fun x y => decide (x ≤ y)).toArray) os := Any.slices_Sort_int Tryz.lays189 blk off cap zs w hH hblk hsz
def Tryz.laysNm220_ren : Go.Shelf.Ren := ⟨fun | 20 => 156 | n => n, fun | 22 => 147 | 3 => 3 | 4 => 4 | 0 => 0 | n => n, fun | n => n⟩
theorem Tryz.laysNm220 : Go.Proofs.Lays2.n20 Tryz.prog Tryz.laysNm220_ren := {
 mixed := by kernel_rfl
 f20 := Tryz.func156.trans (congrArg some (by kernel_rfl))
 t0 := Tryz.underlying0
 a0 := Tryz.isAgg0
 z0 := Tryz.sizeOf0
 v0 := Tryz.zeroValue0
 t3 := Tryz.underlying3
 a3 := Tryz.isAgg3
 z3 := Tryz.sizeOf3
 v3 := Tryz.zeroValue3
 t4 := Tryz.underlying4
 a4 := Tryz.isAgg4
 z4 := Tryz.sizeOf4
 v4 := Tryz.zeroValue4
 t22 := Tryz.underlying147
 a22 := Tryz.isAgg147
 z22 := Tryz.sizeOf147
 v22 := Tryz.zeroValue147
 i3 := by kernel_rfl }
open Go.RowKit Go.Lib Go.Sort in
theorem Tryz.slices_Compact_int (blk off cap : Nat) (zs : List Int) (w : World) (hH : Holds (Value.int .i64) w blk off zs.toArray) (hsz : zs.length ≤ 9223372036854775807) (hcap : zs.length ≤ cap) :
    Calls Tryz.prog 156 #[.slice (some ⟨blk, off, none⟩) zs.length cap] w fun e w' => e = .returned (.slice (some ⟨blk, off, none⟩) (Lib.compact zs).length cap) ∧ ∃ q, w' = putRow (Value.int .i64) (Sort.ahead w q) blk off (Lib.compact zs ++ List.replicate (zs.length - (Lib.compact zs).length) 0).toArray := Any.slices_Compact_int Tryz.laysNm220 blk off cap zs w hH hsz hcap
open Go.RowKit Go.Lib Go.Sort in
theorem Tryz.slices_Compact_int_empty (a : Option Addr) (cap : Nat) (w : World) :
    Calls Tryz.prog 156 #[.slice a 0 cap] w fun e w' => e = .returned (.slice a 0 cap) ∧ w' = w := Any.slices_Compact_int_empty Tryz.laysNm220 a cap w
open Go.RowKit Go.Sort in
theorem Tryz.slices_Sort_int_none (p : Option Addr) (cap : Nat) (w : World) :
    Calls Tryz.prog 155 #[.slice p 0 cap] w fun e w' => e = .returned (.tuple #[]) ∧ w' = w := Any.slices_Sort_int_none Tryz.lays189 p cap w
end Go.Proofs
