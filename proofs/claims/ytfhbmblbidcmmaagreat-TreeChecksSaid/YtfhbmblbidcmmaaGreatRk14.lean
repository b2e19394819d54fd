/-
  Of any pages in a file a root is found to be a tree just if it is one in the form of the document. No condition. (part 14)
-/
import Derived.Shelf.Small.Bits
import Derived.Shelf.Strconv.Itoa0
import Derived.Shelf.Strings.Search1
import Derived.Shelf.Sort.Plain
import Derived.Ground.GgsProg
import Derived.Shelf.GgSortFunc.Insertion
import Derived.Shelf.GgSortFunc.Small
import Derived.Shelf.GgSortFunc.InsertionK
import Derived.Shelf.GgSortFunc.SmallK
import Derived.Shelf.GgSortFunc.Tiny
import Derived.Shelf.GgSortFunc.Compose
import Derived.Shelf.GgSortFunc.LotD
import Derived.Shelf.Slices.In.SortNone
import Derived.Shelf.Slices.In.SortNone2
import Derived.Ground.SlbNamesProg
import Derived.Shelf.Bytes.SlCountOne
import Derived.Shelf.SlSortFunc.Xorshift
import Derived.Shelf.SlSortFuncK.ComposeK
import Derived.Shelf.SlSortFuncK.SiftDownK
import Derived.Shelf.SlSortFuncK.HeapSortK
import Derived.Shelf.SlSortFuncK.PartialInsertionK
import Derived.Shelf.SlSortFuncK.LotDK
import Derived.Shelf.SlSortFuncK.PivotK
import Derived.Shelf.SlSortFuncK.PartitionK
import Derived.Shelf.SlSortFuncK.PdqK
import Derived.Shelf.SlSortFuncK.WholeK
import Derived.Test.YtfhbmblbidcmmaaGreatProg
set_option linter.unusedSimpArgs false
set_option linter.unusedVariables false
namespace Go.Proofs
open Go.Shelf
def Tryz.lays191_ren : Go.Shelf.Ren := ⟨fun | 191 => 122 | 189 => 153 | 125 => 174 | 257 => 176 | 128 => 208 | 129 => 209 | 294 => 218 | 295 => 219 | 296 => 220 | 297 => 221 | 298 => 222 | 299 => 223 | 216 => 224 | 300 => 225 | 301 => 226 | 328 => 246 | 329 => 247 | 330 => 248 | 331 => 249 | 332 => 250 | 215 => 251 | 343 => 259 | n => n, fun | 28 => 45 | 0 => 0 | 3 => 3 | 46 => 300 | 51 => 143 | 53 => 324 | 4 => 4 | 183 => 334 | 182 => 333 | 131 => 288 | 5 => 5 | 9 => 9 | 218 => 355 | 222 => 353 | 228 => 363 | 229 => 305 | n => n, fun | n => n⟩
theorem Tryz.lays191 : Go.Proofs.Lays.n191 Tryz.prog Tryz.lays191_ren := {
 mixed := by kernel_rfl
 f125 := Tryz.func174.trans (congrArg some (by kernel_rfl))
 f128 := Tryz.func208.trans (congrArg some (by kernel_rfl))
 f129 := Tryz.func209.trans (congrArg some (by kernel_rfl))
 f189 := Tryz.func153.trans (congrArg some (by kernel_rfl))
 f191 := Tryz.func122.trans (congrArg some (by kernel_rfl))
 f215 := Tryz.func251.trans (congrArg some (by kernel_rfl))
 f216 := Tryz.func224.trans (congrArg some (by kernel_rfl))
 f257 := Tryz.func176.trans (congrArg some (by kernel_rfl))
 f294 := Tryz.func218.trans (congrArg some (by kernel_rfl))
 f295 := Tryz.func219.trans (congrArg some (by kernel_rfl))
 f296 := Tryz.func220.trans (congrArg some (by kernel_rfl))
 f297 := Tryz.func221.trans (congrArg some (by kernel_rfl))
 f298 := Tryz.func222.trans (congrArg some (by kernel_rfl))
 f299 := Tryz.func223.trans (congrArg some (by kernel_rfl))
 f300 := Tryz.func225.trans (congrArg some (by kernel_rfl))
 f301 := Tryz.func226.trans (congrArg some (by kernel_rfl))
 f328 := Tryz.func246.trans (congrArg some (by kernel_rfl))
 f329 := Tryz.func247.trans (congrArg some (by kernel_rfl))
 f330 := Tryz.func248.trans (congrArg some (by kernel_rfl))
 f331 := Tryz.func249.trans (congrArg some (by kernel_rfl))
 f332 := Tryz.func250.trans (congrArg some (by kernel_rfl))
 f343 := Tryz.func259.trans (congrArg some (by kernel_rfl))
 t0 := Tryz.underlying0
 a0 := Tryz.isAgg0
 z0 := Tryz.sizeOf0
 v0 := Tryz.zeroValue0
 t3 := Tryz.underlying3
 a3 := Tryz.isAgg3
 z3 := Tryz.sizeOf3
 v3 := Tryz.zeroValue3
 t4 := Tryz.underlying4
 a4 := Tryz.isAgg4
 z4 := Tryz.sizeOf4
 v4 := Tryz.zeroValue4
 t5 := Tryz.underlying5
 a5 := Tryz.isAgg5
 z5 := Tryz.sizeOf5
 v5 := Tryz.zeroValue5
 t9 := Tryz.underlying9
 a9 := Tryz.isAgg9
 z9 := Tryz.sizeOf9
 v9 := Tryz.zeroValue9
 t28 := Tryz.underlying45
 a28 := Tryz.isAgg45
 z28 := Tryz.sizeOf45
 v28 := Tryz.zeroValue45
 t46 := Tryz.underlying300
 a46 := Tryz.isAgg300
 z46 := Tryz.sizeOf300
 v46 := Tryz.zeroValue300
 t51 := Tryz.underlying143
 a51 := Tryz.isAgg143
 z51 := Tryz.sizeOf143
 v51 := Tryz.zeroValue143
 t53 := Tryz.underlying324
 a53 := Tryz.isAgg324
 z53 := Tryz.sizeOf324
 v53 := Tryz.zeroValue324
 t131 := Tryz.underlying288
 a131 := Tryz.isAgg288
 z131 := Tryz.sizeOf288
 v131 := Tryz.zeroValue288
 t182 := Tryz.underlying333
 a182 := Tryz.isAgg333
 z182 := Tryz.sizeOf333
 v182 := Tryz.zeroValue333
 t183 := Tryz.underlying334
 a183 := Tryz.isAgg334
 z183 := Tryz.sizeOf334
 v183 := Tryz.zeroValue334
 t218 := Tryz.underlying355
 a218 := Tryz.isAgg355
 z218 := Tryz.sizeOf355
 v218 := Tryz.zeroValue355
 t222 := Tryz.underlying353
 a222 := Tryz.isAgg353
 z222 := Tryz.sizeOf353
 v222 := Tryz.zeroValue353
 t228 := Tryz.underlying363
 a228 := Tryz.isAgg363
 z228 := Tryz.sizeOf363
 v228 := Tryz.zeroValue363
 t229 := Tryz.underlying305
 a229 := Tryz.isAgg305
 z229 := Tryz.sizeOf305
 v229 := Tryz.zeroValue305 }
open Go.Sort Go.RowKit in
theorem Tryz.sort_Ints (blk off cap : Nat) (zs : List Int) (w : World) (hH : Holds (Value.int .i64) w blk off zs.toArray) (hblk : blk < w.heap.size) (hsz : zs.length < 4611686018427387904) :
 Calls Tryz.prog 122 #[.slice (some ⟨blk, off, none⟩) zs.length cap] w fun e w' =>
  e = .returned (.tuple #[]) ∧ ∃ n os, w' = grow (putRow (Value.int .i64) (Sort.ahead w n) blk off (zs.mergeSort fun x y => decide (x ≤ y)).toArray) os := Any.sort_Ints Tryz.lays191 blk off cap zs w hH hblk hsz
open Go.RowKit Go.Sort in
theorem Tryz.sort_Ints_none (p : Option Addr) (cap : Nat) (w : World) :
 Calls Tryz.prog 122 #[.slice p 0 cap] w fun e w' => e = .returned (.tuple #[]) ∧ w' = w := Any.sort_Ints_none Tryz.lays191 p cap w
end Go.Proofs
