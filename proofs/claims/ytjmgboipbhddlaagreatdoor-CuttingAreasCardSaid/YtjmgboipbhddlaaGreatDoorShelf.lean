import Derived.Shelf.Small.Bits
import Derived.Shelf.Small.Wraps
import Derived.Shelf.Strconv.Itoa0
import Derived.Shelf.Strconv.Itoa1
import Derived.Shelf.LaysM
import Derived.Shelf.Strconv.Itoa2
import Derived.Shelf.Strconv.Itoa3
import Derived.Shelf.Sort.Plain
import Derived.Ground.Names2Prog
import Derived.Shelf.Slices.CompactI
import Derived.Shelf.Slices.SearchI
import Derived.Shelf.Slices.Cells
import Derived.Shelf.Slices.In.SortNone
import Derived.Ground.SlsfProg
import Derived.Shelf.SlSortCmp.Insertion
import Derived.Shelf.SlSortCmp.Insertion1
import Derived.Shelf.SlSortCmp.NoneTotal
import Derived.Test.YtjmgboipbhddlaaGreatDoorProg
namespace Go.Proofs
open Go.Shelf
def Tryz.laysM246_ren : Go.Shelf.Ren := ⟨fun | 246 => 120 | 283 => 135 | 284 => 136 | 285 => 137 | 286 => 138 | 129 => 133 | 317 => 154 | 318 => 155 | 319 => 156 | 320 => 157 | 337 => 163 | 338 => 164 | n => n, fun | 2 => 2 | 3 => 3 | 9 => 9 | 4 => 4 | 171 => 195 | 0 => 0 | 53 => 193 | 37 => 178 | 5 => 5 | 173 => 197 | 212 => 212 | 51 => 191 | 20 => 20 | 213 => 213 | 46 => 171 | 232 => 219 | 233 => 220 | n => n, fun | 17 => 0 | 18 => 1 | 19 => 2 | n => n⟩
def Tryz.laysM243_ren : Go.Shelf.Ren := ⟨fun | 243 => 101 | 246 => 120 | 283 => 135 | 284 => 136 | 285 => 137 | 286 => 138 | 129 => 133 | 317 => 154 | 318 => 155 | 319 => 156 | 320 => 157 | 337 => 163 | 338 => 164 | n => n, fun | 3 => 3 | 9 => 9 | 2 => 2 | 4 => 4 | 171 => 195 | 0 => 0 | 53 => 193 | 37 => 178 | 5 => 5 | 173 => 197 | 212 => 212 | 51 => 191 | 20 => 20 | 213 => 213 | 46 => 171 | 232 => 219 | 233 => 220 | n => n, fun | 17 => 0 | 18 => 1 | 19 => 2 | n => n⟩
def Tryz.laysM171_ren : Go.Shelf.Ren := ⟨fun | 171 => 60 | 243 => 101 | 246 => 120 | 283 => 135 | 284 => 136 | 285 => 137 | 286 => 138 | 129 => 133 | 317 => 154 | 318 => 155 | 319 => 156 | 320 => 157 | 337 => 163 | 338 => 164 | n => n, fun | 3 => 3 | 9 => 9 | 2 => 2 | 4 => 4 | 171 => 195 | 0 => 0 | 53 => 193 | 37 => 178 | 5 => 5 | 173 => 197 | 212 => 212 | 51 => 191 | 20 => 20 | 213 => 213 | 46 => 171 | 232 => 219 | 233 => 220 | n => n, fun | 17 => 0 | 18 => 1 | 19 => 2 | n => n⟩
theorem Tryz.laysM171 : Go.Proofs.LaysM.n171 Tryz.prog Tryz.laysM171_ren := {
 mixed := by kernel_rfl
 f129 := Tryz.func133.trans (congrArg some (by kernel_rfl))
 f171 := Tryz.func60.trans (congrArg some (by kernel_rfl))
 f243 := Tryz.func101.trans (congrArg some (by kernel_rfl))
 f246 := Tryz.func120.trans (congrArg some (by kernel_rfl))
 f283 := Tryz.func135.trans (congrArg some (by kernel_rfl))
 f284 := Tryz.func136.trans (congrArg some (by kernel_rfl))
 f285 := Tryz.func137.trans (congrArg some (by kernel_rfl))
 f286 := Tryz.func138.trans (congrArg some (by kernel_rfl))
 f317 := Tryz.func154.trans (congrArg some (by kernel_rfl))
 f318 := Tryz.func155.trans (congrArg some (by kernel_rfl))
 f319 := Tryz.func156.trans (congrArg some (by kernel_rfl))
 f320 := Tryz.func157.trans (congrArg some (by kernel_rfl))
 f337 := Tryz.func163.trans (congrArg some (by kernel_rfl))
 f338 := Tryz.func164.trans (congrArg some (by kernel_rfl))
 t0 := Tryz.underlying0
 a0 := Tryz.isAgg0
 z0 := Tryz.sizeOf0
 v0 := Tryz.zeroValue0
 t2 := Tryz.underlying2
 a2 := Tryz.isAgg2
 z2 := Tryz.sizeOf2
 v2 := Tryz.zeroValue2
 t3 := Tryz.underlying3
 a3 := Tryz.isAgg3
 z3 := Tryz.sizeOf3
 v3 := Tryz.zeroValue3
 t4 := Tryz.underlying4
 a4 := Tryz.isAgg4
 z4 := Tryz.sizeOf4
 v4 := Tryz.zeroValue4
 t5 := Tryz.underlying5
 a5 := Tryz.isAgg5
 z5 := Tryz.sizeOf5
 v5 := Tryz.zeroValue5
 t9 := Tryz.underlying9
 a9 := Tryz.isAgg9
 z9 := Tryz.sizeOf9
 v9 := Tryz.zeroValue9
 t20 := Tryz.underlying20
 a20 := Tryz.isAgg20
 z20 := Tryz.sizeOf20
 v20 := Tryz.zeroValue20
 t37 := Tryz.underlying178
 a37 := Tryz.isAgg178
 z37 := Tryz.sizeOf178
 v37 := Tryz.zeroValue178
 t46 := Tryz.underlying171
 a46 := Tryz.isAgg171
 z46 := Tryz.sizeOf171
 v46 := Tryz.zeroValue171
 t51 := Tryz.underlying191
 a51 := Tryz.isAgg191
 z51 := Tryz.sizeOf191
 v51 := Tryz.zeroValue191
 t53 := Tryz.underlying193
 a53 := Tryz.isAgg193
 z53 := Tryz.sizeOf193
 v53 := Tryz.zeroValue193
 t171 := Tryz.underlying195
 a171 := Tryz.isAgg195
 z171 := Tryz.sizeOf195
 v171 := Tryz.zeroValue195
 t173 := Tryz.underlying197
 a173 := Tryz.isAgg197
 z173 := Tryz.sizeOf197
 v173 := Tryz.zeroValue197
 t212 := Tryz.underlying212
 a212 := Tryz.isAgg212
 z212 := Tryz.sizeOf212
 v212 := Tryz.zeroValue212
 t213 := Tryz.underlying213
 a213 := Tryz.isAgg213
 z213 := Tryz.sizeOf213
 t232 := Tryz.underlying219
 a232 := Tryz.isAgg219
 z232 := Tryz.sizeOf219
 v232 := Tryz.zeroValue219
 t233 := Tryz.underlying220
 a233 := Tryz.isAgg220
 z233 := Tryz.sizeOf220
 v233 := Tryz.zeroValue220
 g17 := by kernel_rfl
 g18 := by kernel_rfl
 g19 := by kernel_rfl
 i0 := by kernel_rfl
 i2 := by kernel_rfl
 i3 := by kernel_rfl
 i4 := by kernel_rfl
 i5 := by kernel_rfl
 i9 := by kernel_rfl
 i20 := by kernel_rfl
 i37 := by kernel_rfl
 i46 := by kernel_rfl
 i51 := by kernel_rfl
 i53 := by kernel_rfl
 i171 := by kernel_rfl
 i173 := by kernel_rfl
 i212 := by kernel_rfl
 i232 := by kernel_rfl
 i233 := by kernel_rfl
 m17 := by kernel_rfl
 m18 := by kernel_rfl
 m19 := by kernel_rfl }
open Go.RowKit Go.Sort Go.Lib in
theorem Tryz.strconv_Itoa (n : Int) (h0 : -9223372036854775808 ≤ n) (h1 : n ≤ 9223372036854775807) (w : World) (htab : Lib.TabIs Tryz.prog w "internal/strconv.uint64pow10" .u64 Lib.pow10Tab) :
    Calls Tryz.prog 60 #[.int .i64 n] w fun e w' => e = .returned (.string ⟨(Lib.itoa n).toArray⟩) ∧ ∃ k os, w' = grow (w.drewN k) os := Any.strconv_Itoa Tryz.laysM171 n h0 h1 w htab
def Tryz.lays189_ren : Go.Shelf.Ren := ⟨fun | 189 => 111 | 125 => 114 | 257 => 123 | 128 => 132 | 129 => 133 | 294 => 140 | 295 => 141 | 296 => 142 | 297 => 143 | 298 => 144 | 299 => 145 | 216 => 146 | 300 => 147 | 301 => 148 | 328 => 159 | 329 => 150 | 330 => 151 | 331 => 160 | 332 => 161 | 215 => 104 | 343 => 165 | n => n, fun | 28 => 73 | 3 => 3 | 46 => 171 | 0 => 0 | 51 => 191 | 53 => 193 | 4 => 4 | 183 => 184 | 182 => 183 | 131 => 188 | 5 => 5 | 9 => 9 | 218 => 205 | 222 => 209 | 228 => 216 | 229 => 163 | n => n, fun | n => n⟩
theorem Tryz.lays189 : Go.Proofs.Lays.n189 Tryz.prog Tryz.lays189_ren := {
 mixed := by kernel_rfl
 f125 := Tryz.func114.trans (congrArg some (by kernel_rfl))
 f128 := Tryz.func132.trans (congrArg some (by kernel_rfl))
 f129 := Tryz.func133.trans (congrArg some (by kernel_rfl))
 f189 := Tryz.func111.trans (congrArg some (by kernel_rfl))
 f215 := Tryz.func104.trans (congrArg some (by kernel_rfl))
 f216 := Tryz.func146.trans (congrArg some (by kernel_rfl))
 f257 := Tryz.func123.trans (congrArg some (by kernel_rfl))
 f294 := Tryz.func140.trans (congrArg some (by kernel_rfl))
 f295 := Tryz.func141.trans (congrArg some (by kernel_rfl))
 f296 := Tryz.func142.trans (congrArg some (by kernel_rfl))
 f297 := Tryz.func143.trans (congrArg some (by kernel_rfl))
 f298 := Tryz.func144.trans (congrArg some (by kernel_rfl))
 f299 := Tryz.func145.trans (congrArg some (by kernel_rfl))
 f300 := Tryz.func147.trans (congrArg some (by kernel_rfl))
 f301 := Tryz.func148.trans (congrArg some (by kernel_rfl))
 f328 := Tryz.func159.trans (congrArg some (by kernel_rfl))
 f329 := Tryz.func150.trans (congrArg some (by kernel_rfl))
 f330 := Tryz.func151.trans (congrArg some (by kernel_rfl))
 f331 := Tryz.func160.trans (congrArg some (by kernel_rfl))
 f332 := Tryz.func161.trans (congrArg some (by kernel_rfl))
 f343 := Tryz.func165.trans (congrArg some (by kernel_rfl))
 t0 := Tryz.underlying0
 a0 := Tryz.isAgg0
 z0 := Tryz.sizeOf0
 v0 := Tryz.zeroValue0
 t3 := Tryz.underlying3
 a3 := Tryz.isAgg3
 z3 := Tryz.sizeOf3
 v3 := Tryz.zeroValue3
 t4 := Tryz.underlying4
 a4 := Tryz.isAgg4
 z4 := Tryz.sizeOf4
 v4 := Tryz.zeroValue4
 t5 := Tryz.underlying5
 a5 := Tryz.isAgg5
 z5 := Tryz.sizeOf5
 v5 := Tryz.zeroValue5
 t9 := Tryz.underlying9
 a9 := Tryz.isAgg9
 z9 := Tryz.sizeOf9
 v9 := Tryz.zeroValue9
 t28 := Tryz.underlying73
 a28 := Tryz.isAgg73
 z28 := Tryz.sizeOf73
 v28 := Tryz.zeroValue73
 t46 := Tryz.underlying171
 a46 := Tryz.isAgg171
 z46 := Tryz.sizeOf171
 v46 := Tryz.zeroValue171
 t51 := Tryz.underlying191
 a51 := Tryz.isAgg191
 z51 := Tryz.sizeOf191
 v51 := Tryz.zeroValue191
 t53 := Tryz.underlying193
 a53 := Tryz.isAgg193
 z53 := Tryz.sizeOf193
 v53 := Tryz.zeroValue193
 t131 := Tryz.underlying188
 a131 := Tryz.isAgg188
 z131 := Tryz.sizeOf188
 v131 := Tryz.zeroValue188
 t182 := Tryz.underlying183
 a182 := Tryz.isAgg183
 z182 := Tryz.sizeOf183
 v182 := Tryz.zeroValue183
 t183 := Tryz.underlying184
 a183 := Tryz.isAgg184
 z183 := Tryz.sizeOf184
 v183 := Tryz.zeroValue184
 t218 := Tryz.underlying205
 a218 := Tryz.isAgg205
 z218 := Tryz.sizeOf205
 v218 := Tryz.zeroValue205
 t222 := Tryz.underlying209
 a222 := Tryz.isAgg209
 z222 := Tryz.sizeOf209
 v222 := Tryz.zeroValue209
 t228 := Tryz.underlying216
 a228 := Tryz.isAgg216
 z228 := Tryz.sizeOf216
 v228 := Tryz.zeroValue216
 t229 := Tryz.underlying163
 a229 := Tryz.isAgg163
 z229 := Tryz.sizeOf163
 v229 := Tryz.zeroValue163 }
open Go.Sort Go.RowKit in
theorem Tryz.slices_Sort_int (blk off cap : Nat) (zs : List Int) (w : World) (hH : Holds (Value.int .i64) w blk off zs.toArray) (hblk : blk < w.heap.size) (hsz : zs.length < 4611686018427387904) :
    Calls Tryz.prog 111 #[.slice (some ⟨blk, off, none⟩) zs.length cap] w fun e w' =>
     e = .returned (.tuple #[]) ∧ ∃ n os, w' = grow (putRow (Value.int .i64) (Sort.ahead w n) blk off (zs.mergeSort fun x y => decide (x ≤ y)).toArray) os := Any.slices_Sort_int Tryz.lays189 blk off cap zs w hH hblk hsz
def Tryz.laysNm220_ren : Go.Shelf.Ren := ⟨fun | 20 => 112 | n => n, fun | 22 => 73 | 3 => 3 | 4 => 4 | 0 => 0 | n => n, fun | n => n⟩
def Tryz.laysSlF20_f121_ren : Go.Shelf.Ren := ⟨fun | 20 => 121 | n => n, fun | 24 => 3 | 22 => 73 | 3 => 3 | 25 => 139 | 4 => 4 | 0 => 0 | n => n, fun | n => n⟩
theorem Tryz.laysSlF20_f121 : Go.Proofs.SlLaysF.n20 Tryz.prog Tryz.laysSlF20_f121_ren := {
 mixed := by kernel_rfl
 f20 := ⟨Tryz.f121.name, by decide, Tryz.func121.trans (congrArg some (by kernel_rfl))⟩
 t0 := Tryz.underlying0
 a0 := Tryz.isAgg0
 z0 := Tryz.sizeOf0
 v0 := Tryz.zeroValue0
 t3 := Tryz.underlying3
 a3 := Tryz.isAgg3
 z3 := Tryz.sizeOf3
 v3 := Tryz.zeroValue3
 t4 := Tryz.underlying4
 a4 := Tryz.isAgg4
 z4 := Tryz.sizeOf4
 v4 := Tryz.zeroValue4
 t22 := Tryz.underlying73
 a22 := Tryz.isAgg73
 z22 := Tryz.sizeOf73
 v22 := Tryz.zeroValue73
 a24 := Tryz.isAgg3
 z24 := Tryz.sizeOf3
 t25 := Tryz.underlying139
 a25 := Tryz.isAgg139
 z25 := Tryz.sizeOf139
 v25 := Tryz.zeroValue139 }
open Go.RowKit Go.Lib Go.Sort in
theorem Tryz.insertionSortCmpFunc_s {α : Type} [Inhabited α] (enc : α → Value) (cf : α → α → Int) (g : Nat) (cb : Array Value) (blk off cap a b : Nat) (d0 d : Array α) (w0 w : World) (eg : ∀ args w, (callFunc g args).run Tryz.prog w = .ok (.enter g args) w) (hcmp : CmpLays1 Tryz.prog g cb enc cf blk off d0.size w0) (R : Row1 enc w0 blk off d0) (hs : d0.size = d.size) (S : SW enc w0 blk off d w) (hab : a ≤ b) (hb : b ≤ d.size) (hsz : d.size < 4611686018427387904) :
    Calls Tryz.prog 121 #[.slice (some ⟨blk, off, none⟩) d.size cap, .int .i64 a, .int .i64 b, .func (.func g) #[] cb] w fun e w' => e = .returned (.tuple #[]) ∧ SW enc w0 blk off (Sort.insertionSort (ltOf cf) d a b) w' := Any.insertionSortCmpFunc_s Tryz.laysSlF20_f121 enc cf g cb blk off cap a b d0 d w0 w eg hcmp R hs S hab hb hsz
end Go.Proofs
