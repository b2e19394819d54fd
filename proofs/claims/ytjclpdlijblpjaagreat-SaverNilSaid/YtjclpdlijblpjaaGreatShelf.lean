/-
  DERIVED: THE SHELF's CONTRACTS AT THIS DUMP, IN PLAIN WORDS (tools/lay-plain.mjs out of 'TryzShelf.lean', which tools/lay-shelf.mjs wrote): THE SAME DECLARATIONS UNDER THE SAME NAMES: 'import', 'namespace', 'open', 'def', 'theorem' AND NOTHING ELSE: no command of the shelf's: FOR A HAND-IN. Each laying: the table of numbers ('.._ren') and one theorem, a field a fact of the dump's own or the kernel's comparison; each contract: ONE APPLICATION.
-/
import Derived.Shelf.Small.Bits
import Derived.Shelf.Strconv.Itoa0
import Derived.Shelf.Strings.Search1
import Derived.Shelf.Sort.Plain
import Derived.Ground.GgsProg
import Derived.Shelf.GgSortFunc.Insertion
import Derived.Shelf.GgSortFunc.Small
import Derived.Shelf.GgSortFunc.InsertionK
import Derived.Shelf.GgSortFunc.SmallK
import Derived.Shelf.GgSortFunc.Tiny
import Derived.Shelf.Slices.In.SortNone
import Derived.Shelf.Slices.In.SortNone2
import Derived.Ground.SlbNamesProg
import Derived.Shelf.Bytes.SlCountOne
import Derived.Test.YtjclpdlijblpjaaGreatProg
namespace Go.Proofs
open Go.Shelf
def Tryz.lays128_ren : Go.Shelf.Ren := ⟨fun | 128 => 327 | n => n, fun | 51 => 64 | 3 => 3 | 4 => 4 | 46 => 358 | 5 => 5 | 9 => 9 | n => n, fun | n => n⟩
theorem Tryz.lays128 : Go.Proofs.Lays.n128 Tryz.prog Tryz.lays128_ren := {
  mixed := by kernel_rfl
  f128 := Tryz.func327.trans (congrArg some (by kernel_rfl))
  t3 := Tryz.underlying3
  a3 := Tryz.isAgg3
  z3 := Tryz.sizeOf3
  v3 := Tryz.zeroValue3
  t4 := Tryz.underlying4
  a4 := Tryz.isAgg4
  z4 := Tryz.sizeOf4
  v4 := Tryz.zeroValue4
  t5 := Tryz.underlying5
  a5 := Tryz.isAgg5
  z5 := Tryz.sizeOf5
  v5 := Tryz.zeroValue5
  t9 := Tryz.underlying9
  a9 := Tryz.isAgg9
  z9 := Tryz.sizeOf9
  v9 := Tryz.zeroValue9
  t46 := Tryz.underlying358
  a46 := Tryz.isAgg358
  z46 := Tryz.sizeOf358
  v46 := Tryz.zeroValue358
  t51 := Tryz.underlying64
  a51 := Tryz.isAgg64
  z51 := Tryz.sizeOf64
  v51 := Tryz.zeroValue64 }
/-- bits.Len32: "Len32 returns the minimum number of bits required to represent x; the result is 0 for x == 0.": IT RETURNS 'Lib.bitLen x'; the world is as it was. ('h0', 'h1': x is a uint32.) (LAID: no walk: one application.) -/
theorem Tryz.bits_Len32 (x : Int) (w : World) (h0 : 0 ≤ x) (h1 : x ≤ 4294967295) :
    Calls Tryz.prog 327 #[.int .u32 x] w fun e w' => e = .returned (.int .i64 (Lib.bitLen x.toNat)) ∧ w' = w := Any.bits_Len32 Tryz.lays128 x w h0 h1
def Tryz.lays125_ren : Go.Shelf.Ren := ⟨fun | 125 => 288 | 128 => 327 | 129 => 328 | n => n, fun | 46 => 358 | 3 => 3 | 51 => 64 | 53 => 430 | 4 => 4 | 5 => 5 | 9 => 9 | n => n, fun | n => n⟩
theorem Tryz.lays125 : Go.Proofs.Lays.n125 Tryz.prog Tryz.lays125_ren := {
  mixed := by kernel_rfl
  f125 := Tryz.func288.trans (congrArg some (by kernel_rfl))
  f128 := Tryz.func327.trans (congrArg some (by kernel_rfl))
  f129 := Tryz.func328.trans (congrArg some (by kernel_rfl))
  t3 := Tryz.underlying3
  a3 := Tryz.isAgg3
  z3 := Tryz.sizeOf3
  v3 := Tryz.zeroValue3
  t4 := Tryz.underlying4
  a4 := Tryz.isAgg4
  z4 := Tryz.sizeOf4
  v4 := Tryz.zeroValue4
  t5 := Tryz.underlying5
  a5 := Tryz.isAgg5
  z5 := Tryz.sizeOf5
  v5 := Tryz.zeroValue5
  t9 := Tryz.underlying9
  a9 := Tryz.isAgg9
  z9 := Tryz.sizeOf9
  v9 := Tryz.zeroValue9
  t46 := Tryz.underlying358
  a46 := Tryz.isAgg358
  z46 := Tryz.sizeOf358
  v46 := Tryz.zeroValue358
  t51 := Tryz.underlying64
  a51 := Tryz.isAgg64
  z51 := Tryz.sizeOf64
  v51 := Tryz.zeroValue64
  t53 := Tryz.underlying430
  a53 := Tryz.isAgg430
  z53 := Tryz.sizeOf430
  v53 := Tryz.zeroValue430 }
/-- bits.Len: "Len returns the minimum number of bits required to represent x; the result is 0 for x == 0.": IT RETURNS 'Lib.bitLen x'; the world is as it was. (A uint has 64 bits in the model.) ITS CALLEE bits.Len64 IS MET BY ITS OWN CONTRACT OFF THE SHELF (lay that first). (LAID: no walk: one application.) -/
theorem Tryz.bits_Len (x : Int) (w : World) (h0 : 0 ≤ x) (h1 : x ≤ 18446744073709551615) :
    Calls Tryz.prog 288 #[.int .u64 x] w fun e w' => e = .returned (.int .i64 (Lib.bitLen x.toNat)) ∧ w' = w := Any.bits_Len Tryz.lays125 x w h0 h1
def Tryz.lays129_ren : Go.Shelf.Ren := ⟨fun | 129 => 328 | n => n, fun | 53 => 430 | 3 => 3 | 4 => 4 | 46 => 358 | 5 => 5 | 9 => 9 | n => n, fun | n => n⟩
theorem Tryz.lays129 : Go.Proofs.Lays.n129 Tryz.prog Tryz.lays129_ren := {
  mixed := by kernel_rfl
  f129 := Tryz.func328.trans (congrArg some (by kernel_rfl))
  t3 := Tryz.underlying3
  a3 := Tryz.isAgg3
  z3 := Tryz.sizeOf3
  v3 := Tryz.zeroValue3
  t4 := Tryz.underlying4
  a4 := Tryz.isAgg4
  z4 := Tryz.sizeOf4
  v4 := Tryz.zeroValue4
  t5 := Tryz.underlying5
  a5 := Tryz.isAgg5
  z5 := Tryz.sizeOf5
  v5 := Tryz.zeroValue5
  t9 := Tryz.underlying9
  a9 := Tryz.isAgg9
  z9 := Tryz.sizeOf9
  v9 := Tryz.zeroValue9
  t46 := Tryz.underlying358
  a46 := Tryz.isAgg358
  z46 := Tryz.sizeOf358
  v46 := Tryz.zeroValue358
  t53 := Tryz.underlying430
  a53 := Tryz.isAgg430
  z53 := Tryz.sizeOf430
  v53 := Tryz.zeroValue430 }
/-- bits.Len64: "Len64 returns the minimum number of bits required to represent x; the result is 0 for x == 0.": IT RETURNS 'Lib.bitLen x'; the world is as it was. ('h0', 'h1': x is a uint64.) (LAID: no walk: one application.) -/
theorem Tryz.bits_Len64 (x : Int) (w : World) (h0 : 0 ≤ x) (h1 : x ≤ 18446744073709551615) :
    Calls Tryz.prog 328 #[.int .u64 x] w fun e w' => e = .returned (.int .i64 (Lib.bitLen x.toNat)) ∧ w' = w := Any.bits_Len64 Tryz.lays129 x w h0 h1
def Tryz.lays224_ren : Go.Shelf.Ren := ⟨fun | 224 => 294 | n => n, fun | 3 => 3 | n => n, fun | n => n⟩
theorem Tryz.lays224 : Go.Proofs.Lays.n224 Tryz.prog Tryz.lays224_ren := {
  mixed := by kernel_rfl
  f224 := Tryz.func294.trans (congrArg some (by kernel_rfl))
  t3 := Tryz.underlying3
  a3 := Tryz.isAgg3
  z3 := Tryz.sizeOf3
  v3 := Tryz.zeroValue3 }
open Go.RowKit Go.Lib in
/-- internal/bytealg.Cutover: "Cutover reports the number of failures of IndexByte we should tolerate before switching over to Index. n is the number of bytes processed so far.": on amd64: (n + 16) / 8. (LAID: no walk: one application.) -/
theorem Tryz.bytealg_Cutover (n : Int) (h0 : 0 ≤ n) (h1 : n < 4611686018427387904) (w : World) :
    Calls Tryz.prog 294 #[.int .i64 n] w fun e w' => e = .returned (.int .i64 ((n + 16) / 8)) ∧ w' = w := Any.bytealg_Cutover Tryz.lays224 n h0 h1 w
def Tryz.lays189_ren : Go.Shelf.Ren := ⟨fun | 189 => 243 | 125 => 288 | 257 => 302 | 128 => 327 | 129 => 328 | 294 => 341 | 295 => 342 | 296 => 343 | 297 => 344 | 298 => 345 | 299 => 346 | 216 => 347 | 300 => 348 | 301 => 349 | 328 => 366 | 329 => 367 | 330 => 368 | 331 => 369 | 332 => 370 | 215 => 371 | 343 => 377 | n => n, fun | 28 => 37 | 3 => 3 | 46 => 358 | 0 => 0 | 51 => 64 | 53 => 430 | 4 => 4 | 183 => 443 | 182 => 442 | 131 => 275 | 5 => 5 | 9 => 9 | 218 => 463 | 222 => 297 | 228 => 472 | 229 => 48 | n => n, fun | n => n⟩
theorem Tryz.lays189 : Go.Proofs.Lays.n189 Tryz.prog Tryz.lays189_ren := {
  mixed := by kernel_rfl
  f125 := Tryz.func288.trans (congrArg some (by kernel_rfl))
  f128 := Tryz.func327.trans (congrArg some (by kernel_rfl))
  f129 := Tryz.func328.trans (congrArg some (by kernel_rfl))
  f189 := Tryz.func243.trans (congrArg some (by kernel_rfl))
  f215 := Tryz.func371.trans (congrArg some (by kernel_rfl))
  f216 := Tryz.func347.trans (congrArg some (by kernel_rfl))
  f257 := Tryz.func302.trans (congrArg some (by kernel_rfl))
  f294 := Tryz.func341.trans (congrArg some (by kernel_rfl))
  f295 := Tryz.func342.trans (congrArg some (by kernel_rfl))
  f296 := Tryz.func343.trans (congrArg some (by kernel_rfl))
  f297 := Tryz.func344.trans (congrArg some (by kernel_rfl))
  f298 := Tryz.func345.trans (congrArg some (by kernel_rfl))
  f299 := Tryz.func346.trans (congrArg some (by kernel_rfl))
  f300 := Tryz.func348.trans (congrArg some (by kernel_rfl))
  f301 := Tryz.func349.trans (congrArg some (by kernel_rfl))
  f328 := Tryz.func366.trans (congrArg some (by kernel_rfl))
  f329 := Tryz.func367.trans (congrArg some (by kernel_rfl))
  f330 := Tryz.func368.trans (congrArg some (by kernel_rfl))
  f331 := Tryz.func369.trans (congrArg some (by kernel_rfl))
  f332 := Tryz.func370.trans (congrArg some (by kernel_rfl))
  f343 := Tryz.func377.trans (congrArg some (by kernel_rfl))
  t0 := Tryz.underlying0
  a0 := Tryz.isAgg0
  z0 := Tryz.sizeOf0
  v0 := Tryz.zeroValue0
  t3 := Tryz.underlying3
  a3 := Tryz.isAgg3
  z3 := Tryz.sizeOf3
  v3 := Tryz.zeroValue3
  t4 := Tryz.underlying4
  a4 := Tryz.isAgg4
  z4 := Tryz.sizeOf4
  v4 := Tryz.zeroValue4
  t5 := Tryz.underlying5
  a5 := Tryz.isAgg5
  z5 := Tryz.sizeOf5
  v5 := Tryz.zeroValue5
  t9 := Tryz.underlying9
  a9 := Tryz.isAgg9
  z9 := Tryz.sizeOf9
  v9 := Tryz.zeroValue9
  t28 := Tryz.underlying37
  a28 := Tryz.isAgg37
  z28 := Tryz.sizeOf37
  v28 := Tryz.zeroValue37
  t46 := Tryz.underlying358
  a46 := Tryz.isAgg358
  z46 := Tryz.sizeOf358
  v46 := Tryz.zeroValue358
  t51 := Tryz.underlying64
  a51 := Tryz.isAgg64
  z51 := Tryz.sizeOf64
  v51 := Tryz.zeroValue64
  t53 := Tryz.underlying430
  a53 := Tryz.isAgg430
  z53 := Tryz.sizeOf430
  v53 := Tryz.zeroValue430
  t131 := Tryz.underlying275
  a131 := Tryz.isAgg275
  z131 := Tryz.sizeOf275
  v131 := Tryz.zeroValue275
  t182 := Tryz.underlying442
  a182 := Tryz.isAgg442
  z182 := Tryz.sizeOf442
  v182 := Tryz.zeroValue442
  t183 := Tryz.underlying443
  a183 := Tryz.isAgg443
  z183 := Tryz.sizeOf443
  v183 := Tryz.zeroValue443
  t218 := Tryz.underlying463
  a218 := Tryz.isAgg463
  z218 := Tryz.sizeOf463
  v218 := Tryz.zeroValue463
  t222 := Tryz.underlying297
  a222 := Tryz.isAgg297
  z222 := Tryz.sizeOf297
  v222 := Tryz.zeroValue297
  t228 := Tryz.underlying472
  a228 := Tryz.isAgg472
  z228 := Tryz.sizeOf472
  v228 := Tryz.zeroValue472
  t229 := Tryz.underlying48
  a229 := Tryz.isAgg48
  z229 := Tryz.sizeOf48
  v229 := Tryz.zeroValue48 }
open Go.Sort Go.RowKit in
theorem Tryz.slices_Sort_int (blk off cap : Nat) (zs : List Int) (w : World) (hH : Holds (Value.int .i64) w blk off zs.toArray) (hblk : blk < w.heap.size) (hsz : zs.length < 4611686018427387904) :
    Calls Tryz.prog 243 #[.slice (some ⟨blk, off, none⟩) zs.length cap] w fun e w' =>
      e = .returned (.tuple #[]) ∧ ∃ n os, w' = grow (putRow (Value.int .i64) (Sort.ahead w n) blk off (zs.mergeSort fun x y => decide (x ≤ y)).toArray) os := Any.slices_Sort_int Tryz.lays189 blk off cap zs w hH hblk hsz
def Tryz.lays191_ren : Go.Shelf.Ren := ⟨fun | 191 => 171 | 189 => 243 | 125 => 288 | 257 => 302 | 128 => 327 | 129 => 328 | 294 => 341 | 295 => 342 | 296 => 343 | 297 => 344 | 298 => 345 | 299 => 346 | 216 => 347 | 300 => 348 | 301 => 349 | 328 => 366 | 329 => 367 | 330 => 368 | 331 => 369 | 332 => 370 | 215 => 371 | 343 => 377 | n => n, fun | 28 => 37 | 0 => 0 | 3 => 3 | 46 => 358 | 51 => 64 | 53 => 430 | 4 => 4 | 183 => 443 | 182 => 442 | 131 => 275 | 5 => 5 | 9 => 9 | 218 => 463 | 222 => 297 | 228 => 472 | 229 => 48 | n => n, fun | n => n⟩
theorem Tryz.lays191 : Go.Proofs.Lays.n191 Tryz.prog Tryz.lays191_ren := {
  mixed := by kernel_rfl
  f125 := Tryz.func288.trans (congrArg some (by kernel_rfl))
  f128 := Tryz.func327.trans (congrArg some (by kernel_rfl))
  f129 := Tryz.func328.trans (congrArg some (by kernel_rfl))
  f189 := Tryz.func243.trans (congrArg some (by kernel_rfl))
  f191 := Tryz.func171.trans (congrArg some (by kernel_rfl))
  f215 := Tryz.func371.trans (congrArg some (by kernel_rfl))
  f216 := Tryz.func347.trans (congrArg some (by kernel_rfl))
  f257 := Tryz.func302.trans (congrArg some (by kernel_rfl))
  f294 := Tryz.func341.trans (congrArg some (by kernel_rfl))
  f295 := Tryz.func342.trans (congrArg some (by kernel_rfl))
  f296 := Tryz.func343.trans (congrArg some (by kernel_rfl))
  f297 := Tryz.func344.trans (congrArg some (by kernel_rfl))
  f298 := Tryz.func345.trans (congrArg some (by kernel_rfl))
  f299 := Tryz.func346.trans (congrArg some (by kernel_rfl))
  f300 := Tryz.func348.trans (congrArg some (by kernel_rfl))
  f301 := Tryz.func349.trans (congrArg some (by kernel_rfl))
  f328 := Tryz.func366.trans (congrArg some (by kernel_rfl))
  f329 := Tryz.func367.trans (congrArg some (by kernel_rfl))
  f330 := Tryz.func368.trans (congrArg some (by kernel_rfl))
  f331 := Tryz.func369.trans (congrArg some (by kernel_rfl))
  f332 := Tryz.func370.trans (congrArg some (by kernel_rfl))
  f343 := Tryz.func377.trans (congrArg some (by kernel_rfl))
  t0 := Tryz.underlying0
  a0 := Tryz.isAgg0
  z0 := Tryz.sizeOf0
  v0 := Tryz.zeroValue0
  t3 := Tryz.underlying3
  a3 := Tryz.isAgg3
  z3 := Tryz.sizeOf3
  v3 := Tryz.zeroValue3
  t4 := Tryz.underlying4
  a4 := Tryz.isAgg4
  z4 := Tryz.sizeOf4
  v4 := Tryz.zeroValue4
  t5 := Tryz.underlying5
  a5 := Tryz.isAgg5
  z5 := Tryz.sizeOf5
  v5 := Tryz.zeroValue5
  t9 := Tryz.underlying9
  a9 := Tryz.isAgg9
  z9 := Tryz.sizeOf9
  v9 := Tryz.zeroValue9
  t28 := Tryz.underlying37
  a28 := Tryz.isAgg37
  z28 := Tryz.sizeOf37
  v28 := Tryz.zeroValue37
  t46 := Tryz.underlying358
  a46 := Tryz.isAgg358
  z46 := Tryz.sizeOf358
  v46 := Tryz.zeroValue358
  t51 := Tryz.underlying64
  a51 := Tryz.isAgg64
  z51 := Tryz.sizeOf64
  v51 := Tryz.zeroValue64
  t53 := Tryz.underlying430
  a53 := Tryz.isAgg430
  z53 := Tryz.sizeOf430
  v53 := Tryz.zeroValue430
  t131 := Tryz.underlying275
  a131 := Tryz.isAgg275
  z131 := Tryz.sizeOf275
  v131 := Tryz.zeroValue275
  t182 := Tryz.underlying442
  a182 := Tryz.isAgg442
  z182 := Tryz.sizeOf442
  v182 := Tryz.zeroValue442
  t183 := Tryz.underlying443
  a183 := Tryz.isAgg443
  z183 := Tryz.sizeOf443
  v183 := Tryz.zeroValue443
  t218 := Tryz.underlying463
  a218 := Tryz.isAgg463
  z218 := Tryz.sizeOf463
  v218 := Tryz.zeroValue463
  t222 := Tryz.underlying297
  a222 := Tryz.isAgg297
  z222 := Tryz.sizeOf297
  v222 := Tryz.zeroValue297
  t228 := Tryz.underlying472
  a228 := Tryz.isAgg472
  z228 := Tryz.sizeOf472
  v228 := Tryz.zeroValue472
  t229 := Tryz.underlying48
  a229 := Tryz.isAgg48
  z229 := Tryz.sizeOf48
  v229 := Tryz.zeroValue48 }
open Go.Sort Go.RowKit in
theorem Tryz.sort_Ints (blk off cap : Nat) (zs : List Int) (w : World) (hH : Holds (Value.int .i64) w blk off zs.toArray) (hblk : blk < w.heap.size) (hsz : zs.length < 4611686018427387904) :
    Calls Tryz.prog 171 #[.slice (some ⟨blk, off, none⟩) zs.length cap] w fun e w' =>
      e = .returned (.tuple #[]) ∧ ∃ n os, w' = grow (putRow (Value.int .i64) (Sort.ahead w n) blk off (zs.mergeSort fun x y => decide (x ≤ y)).toArray) os := Any.sort_Ints Tryz.lays191 blk off cap zs w hH hblk hsz
def Tryz.laysGg26_ren : Go.Shelf.Ren := ⟨fun | 26 => 329 | n => n, fun | 44 => 402 | 3 => 3 | 0 => 0 | 4 => 4 | 26 => 143 | 37 => 397 | n => n, fun | n => n⟩
theorem Tryz.laysGg26 : Go.Proofs.LaysGg.n26 Tryz.prog Tryz.laysGg26_ren := {
  mixed := by kernel_rfl
  f26 := Tryz.func329.trans (congrArg some (by kernel_rfl))
  t0 := Tryz.underlying0
  a0 := Tryz.isAgg0
  z0 := Tryz.sizeOf0
  v0 := Tryz.zeroValue0
  i0 := by kernel_rfl
  t3 := Tryz.underlying3
  a3 := Tryz.isAgg3
  z3 := Tryz.sizeOf3
  v3 := Tryz.zeroValue3
  i3 := by kernel_rfl
  t4 := Tryz.underlying4
  a4 := Tryz.isAgg4
  z4 := Tryz.sizeOf4
  v4 := Tryz.zeroValue4
  i4 := by kernel_rfl
  t26 := Tryz.underlying143
  a26 := Tryz.isAgg143
  z26 := Tryz.sizeOf143
  v26 := Tryz.zeroValue143
  i26 := by kernel_rfl
  t37 := Tryz.underlying397
  a37 := Tryz.isAgg397
  z37 := Tryz.sizeOf397
  v37 := Tryz.zeroValue397
  i37 := by kernel_rfl
  t44 := Tryz.underlying402
  a44 := Tryz.isAgg402
  z44 := Tryz.sizeOf402
  v44 := Tryz.zeroValue402
  i44 := by kernel_rfl }
open Go.RowKit Go.Lib Go.Sort in
theorem Tryz.insertionSort_func_one {α : Type} [Inhabited α] (enc : α → Value) (lt : α → α → Bool) (g : Nat) (lb : Array Value) (sf : Nat) (sb : Array Value) (blk off a b : Nat) (d : Array α) (w : World) (eg : ∀ args w, (callFunc g args).run Tryz.prog w = .ok (.enter g args) w) (hless : LessReads Tryz.prog g lb enc lt blk off d.size w) (hswap : SwapSwaps Tryz.prog sf sb enc blk off d.size) (hH : Holds enc w blk off d) (hblk : blk < w.heap.size) (hab : a ≤ b) (hb : b ≤ d.size) (hsz : d.size < 4611686018427387904) :
    Calls Tryz.prog 329 #[.agg #[.func (.func g) #[] lb, .func (.func sf) #[] sb], .int .i64 a, .int .i64 b] w fun e w' =>
      e = .returned (.tuple #[]) ∧ ∃ n, w' = putRow enc (Sort.ahead (w.alloc (.cells #[.func (.func g) #[] lb, .func (.func sf) #[] sb] 402)) n) blk off (Sort.insertionSort lt d a b) := Any.insertionSort_func_one Tryz.laysGg26 enc lt g lb sf sb blk off a b d w eg hless hswap hH hblk hab hb hsz
def Tryz.laysGg14_ren : Go.Shelf.Ren := ⟨fun | 14 => 289 | 26 => 329 | 27 => 330 | 28 => 331 | 29 => 332 | 30 => 333 | 31 => 334 | 32 => 335 | 33 => 336 | 34 => 360 | 35 => 361 | 36 => 362 | 37 => 363 | 38 => 364 | 13 => 288 | 39 => 376 | 24 => 327 | 25 => 328 | n => n, fun | 44 => 402 | 3 => 3 | 0 => 0 | 4 => 4 | 54 => 433 | 53 => 432 | 26 => 143 | 58 => 275 | 37 => 397 | 60 => 458 | 41 => 358 | 51 => 430 | 64 => 297 | 66 => 470 | 67 => 48 | 49 => 64 | 5 => 5 | 9 => 9 | n => n, fun | n => n⟩
theorem Tryz.laysGg14 : Go.Proofs.LaysGg.n14 Tryz.prog Tryz.laysGg14_ren := {
  mixed := by kernel_rfl
  f13 := Tryz.func288.trans (congrArg some (by kernel_rfl))
  f14 := Tryz.func289.trans (congrArg some (by kernel_rfl))
  f24 := Tryz.func327.trans (congrArg some (by kernel_rfl))
  f25 := Tryz.func328.trans (congrArg some (by kernel_rfl))
  f26 := Tryz.func329.trans (congrArg some (by kernel_rfl))
  f27 := Tryz.func330.trans (congrArg some (by kernel_rfl))
  f28 := Tryz.func331.trans (congrArg some (by kernel_rfl))
  f29 := Tryz.func332.trans (congrArg some (by kernel_rfl))
  f30 := Tryz.func333.trans (congrArg some (by kernel_rfl))
  f31 := Tryz.func334.trans (congrArg some (by kernel_rfl))
  f32 := Tryz.func335.trans (congrArg some (by kernel_rfl))
  f33 := Tryz.func336.trans (congrArg some (by kernel_rfl))
  f34 := Tryz.func360.trans (congrArg some (by kernel_rfl))
  f35 := Tryz.func361.trans (congrArg some (by kernel_rfl))
  f36 := Tryz.func362.trans (congrArg some (by kernel_rfl))
  f37 := Tryz.func363.trans (congrArg some (by kernel_rfl))
  f38 := Tryz.func364.trans (congrArg some (by kernel_rfl))
  f39 := Tryz.func376.trans (congrArg some (by kernel_rfl))
  t0 := Tryz.underlying0
  a0 := Tryz.isAgg0
  z0 := Tryz.sizeOf0
  v0 := Tryz.zeroValue0
  i0 := by kernel_rfl
  t3 := Tryz.underlying3
  a3 := Tryz.isAgg3
  z3 := Tryz.sizeOf3
  v3 := Tryz.zeroValue3
  i3 := by kernel_rfl
  t4 := Tryz.underlying4
  a4 := Tryz.isAgg4
  z4 := Tryz.sizeOf4
  v4 := Tryz.zeroValue4
  i4 := by kernel_rfl
  t5 := Tryz.underlying5
  a5 := Tryz.isAgg5
  z5 := Tryz.sizeOf5
  v5 := Tryz.zeroValue5
  i5 := by kernel_rfl
  t9 := Tryz.underlying9
  a9 := Tryz.isAgg9
  z9 := Tryz.sizeOf9
  v9 := Tryz.zeroValue9
  i9 := by kernel_rfl
  t26 := Tryz.underlying143
  a26 := Tryz.isAgg143
  z26 := Tryz.sizeOf143
  v26 := Tryz.zeroValue143
  i26 := by kernel_rfl
  t37 := Tryz.underlying397
  a37 := Tryz.isAgg397
  z37 := Tryz.sizeOf397
  v37 := Tryz.zeroValue397
  i37 := by kernel_rfl
  t41 := Tryz.underlying358
  a41 := Tryz.isAgg358
  z41 := Tryz.sizeOf358
  v41 := Tryz.zeroValue358
  i41 := by kernel_rfl
  t44 := Tryz.underlying402
  a44 := Tryz.isAgg402
  z44 := Tryz.sizeOf402
  v44 := Tryz.zeroValue402
  i44 := by kernel_rfl
  t49 := Tryz.underlying64
  a49 := Tryz.isAgg64
  z49 := Tryz.sizeOf64
  v49 := Tryz.zeroValue64
  i49 := by kernel_rfl
  t51 := Tryz.underlying430
  a51 := Tryz.isAgg430
  z51 := Tryz.sizeOf430
  v51 := Tryz.zeroValue430
  i51 := by kernel_rfl
  t53 := Tryz.underlying432
  a53 := Tryz.isAgg432
  z53 := Tryz.sizeOf432
  v53 := Tryz.zeroValue432
  i53 := by kernel_rfl
  t54 := Tryz.underlying433
  a54 := Tryz.isAgg433
  z54 := Tryz.sizeOf433
  v54 := Tryz.zeroValue433
  i54 := by kernel_rfl
  t58 := Tryz.underlying275
  a58 := Tryz.isAgg275
  z58 := Tryz.sizeOf275
  v58 := Tryz.zeroValue275
  i58 := by kernel_rfl
  t60 := Tryz.underlying458
  a60 := Tryz.isAgg458
  z60 := Tryz.sizeOf458
  v60 := Tryz.zeroValue458
  i60 := by kernel_rfl
  t64 := Tryz.underlying297
  a64 := Tryz.isAgg297
  z64 := Tryz.sizeOf297
  v64 := Tryz.zeroValue297
  i64 := by kernel_rfl
  t66 := Tryz.underlying470
  a66 := Tryz.isAgg470
  z66 := Tryz.sizeOf470
  v66 := Tryz.zeroValue470
  i66 := by kernel_rfl
  t67 := Tryz.underlying48
  a67 := Tryz.isAgg48
  z67 := Tryz.sizeOf48
  v67 := Tryz.zeroValue48
  i67 := by kernel_rfl }
open Go.RowKit Go.Lib Go.Sort in
/-- sort.pdqsort_func AT A RANGE OF AT MOST 12. (LAID: no walk: one application.) -/
theorem Tryz.pdqsort_func_small {α : Type} [Inhabited α] (enc : α → Value) (lt : α → α → Bool) (g : Nat) (lb : Array Value) (sf : Nat) (sb : Array Value) (blk off a b : Nat) (lim : Int) (d : Array α) (w : World) (eg : ∀ args w, (callFunc g args).run Tryz.prog w = .ok (.enter g args) w) (hless : LessReads Tryz.prog g lb enc lt blk off d.size w) (hswap : SwapSwaps Tryz.prog sf sb enc blk off d.size) (hH : Holds enc w blk off d) (hblk : blk < w.heap.size) (hab : a ≤ b) (hb : b ≤ d.size) (hsz : d.size < 4611686018427387904) (h12 : b - a ≤ 12) :
    Calls Tryz.prog 289 #[.agg #[.func (.func g) #[] lb, .func (.func sf) #[] sb], .int .i64 a, .int .i64 b, .int .i64 lim] w fun e w' =>
      e = .returned (.tuple #[]) ∧ ∃ n, w' = putRow enc (Sort.ahead ((w.alloc (.cells #[.func (.func g) #[] lb, .func (.func sf) #[] sb] 402)).alloc (.cells #[.func (.func g) #[] lb, .func (.func sf) #[] sb] 402)) n) blk off (Sort.insertionSort lt d a b) := Any.pdqsort_func_small Tryz.laysGg14 enc lt g lb sf sb blk off a b lim d w eg hless hswap hH hblk hab hb hsz h12
def Tryz.laysGg6_ren : Go.Shelf.Ren := ⟨fun | 6 => 232 | 10 => 285 | 11 => 286 | 12 => 287 | 13 => 288 | 14 => 289 | 24 => 327 | 25 => 328 | 26 => 329 | 27 => 330 | 28 => 331 | 29 => 332 | 30 => 333 | 31 => 334 | 32 => 335 | 33 => 336 | 34 => 360 | 35 => 361 | 36 => 362 | 37 => 363 | 38 => 364 | 39 => 376 | n => n, fun | 20 => 20 | 26 => 143 | 35 => 395 | 0 => 0 | 37 => 397 | 3 => 3 | 41 => 358 | 44 => 402 | 49 => 64 | 51 => 430 | 4 => 4 | 54 => 433 | 53 => 432 | 58 => 275 | 5 => 5 | 9 => 9 | 60 => 458 | 64 => 297 | 66 => 470 | 67 => 48 | 17 => 17 | 32 => 392 | 33 => 393 | 82 => 487 | 12 => 12 | 75 => 480 | 76 => 481 | 77 => 482 | 78 => 483 | 79 => 484 | 80 => 485 | n => n, fun | n => n⟩
theorem Tryz.laysGg6 : Go.Proofs.LaysGg.n6 Tryz.prog Tryz.laysGg6_ren := {
  mixed := by kernel_rfl
  f6 := Tryz.func232.trans (congrArg some (by kernel_rfl))
  f10 := Tryz.func285.trans (congrArg some (by kernel_rfl))
  f11 := Tryz.func286.trans (congrArg some (by kernel_rfl))
  f12 := Tryz.func287.trans (congrArg some (by kernel_rfl))
  f13 := Tryz.func288.trans (congrArg some (by kernel_rfl))
  f14 := Tryz.func289.trans (congrArg some (by kernel_rfl))
  f24 := Tryz.func327.trans (congrArg some (by kernel_rfl))
  f25 := Tryz.func328.trans (congrArg some (by kernel_rfl))
  f26 := Tryz.func329.trans (congrArg some (by kernel_rfl))
  f27 := Tryz.func330.trans (congrArg some (by kernel_rfl))
  f28 := Tryz.func331.trans (congrArg some (by kernel_rfl))
  f29 := Tryz.func332.trans (congrArg some (by kernel_rfl))
  f30 := Tryz.func333.trans (congrArg some (by kernel_rfl))
  f31 := Tryz.func334.trans (congrArg some (by kernel_rfl))
  f32 := Tryz.func335.trans (congrArg some (by kernel_rfl))
  f33 := Tryz.func336.trans (congrArg some (by kernel_rfl))
  f34 := Tryz.func360.trans (congrArg some (by kernel_rfl))
  f35 := Tryz.func361.trans (congrArg some (by kernel_rfl))
  f36 := Tryz.func362.trans (congrArg some (by kernel_rfl))
  f37 := Tryz.func363.trans (congrArg some (by kernel_rfl))
  f38 := Tryz.func364.trans (congrArg some (by kernel_rfl))
  f39 := Tryz.func376.trans (congrArg some (by kernel_rfl))
  t0 := Tryz.underlying0
  a0 := Tryz.isAgg0
  z0 := Tryz.sizeOf0
  v0 := Tryz.zeroValue0
  i0 := by kernel_rfl
  t3 := Tryz.underlying3
  a3 := Tryz.isAgg3
  z3 := Tryz.sizeOf3
  v3 := Tryz.zeroValue3
  i3 := by kernel_rfl
  t4 := Tryz.underlying4
  a4 := Tryz.isAgg4
  z4 := Tryz.sizeOf4
  v4 := Tryz.zeroValue4
  i4 := by kernel_rfl
  t5 := Tryz.underlying5
  a5 := Tryz.isAgg5
  z5 := Tryz.sizeOf5
  v5 := Tryz.zeroValue5
  i5 := by kernel_rfl
  t9 := Tryz.underlying9
  a9 := Tryz.isAgg9
  z9 := Tryz.sizeOf9
  v9 := Tryz.zeroValue9
  i9 := by kernel_rfl
  t12 := Tryz.underlying12
  a12 := Tryz.isAgg12
  z12 := Tryz.sizeOf12
  v12 := Tryz.zeroValue12
  i12 := by kernel_rfl
  t17 := Tryz.underlying17
  a17 := Tryz.isAgg17
  z17 := Tryz.sizeOf17
  v17 := Tryz.zeroValue17
  i17 := by kernel_rfl
  t20 := Tryz.underlying20
  a20 := Tryz.isAgg20
  z20 := Tryz.sizeOf20
  v20 := Tryz.zeroValue20
  i20 := by kernel_rfl
  t26 := Tryz.underlying143
  a26 := Tryz.isAgg143
  z26 := Tryz.sizeOf143
  v26 := Tryz.zeroValue143
  i26 := by kernel_rfl
  t32 := Tryz.underlying392
  a32 := Tryz.isAgg392
  z32 := Tryz.sizeOf392
  v32 := Tryz.zeroValue392
  i32 := by kernel_rfl
  t33 := Tryz.underlying393
  a33 := Tryz.isAgg393
  z33 := Tryz.sizeOf393
  v33 := Tryz.zeroValue393
  i33 := by kernel_rfl
  t35 := Tryz.underlying395
  a35 := Tryz.isAgg395
  z35 := Tryz.sizeOf395
  v35 := Tryz.zeroValue395
  i35 := by kernel_rfl
  t37 := Tryz.underlying397
  a37 := Tryz.isAgg397
  z37 := Tryz.sizeOf397
  v37 := Tryz.zeroValue397
  i37 := by kernel_rfl
  t41 := Tryz.underlying358
  a41 := Tryz.isAgg358
  z41 := Tryz.sizeOf358
  v41 := Tryz.zeroValue358
  i41 := by kernel_rfl
  t44 := Tryz.underlying402
  a44 := Tryz.isAgg402
  z44 := Tryz.sizeOf402
  v44 := Tryz.zeroValue402
  i44 := by kernel_rfl
  t49 := Tryz.underlying64
  a49 := Tryz.isAgg64
  z49 := Tryz.sizeOf64
  v49 := Tryz.zeroValue64
  i49 := by kernel_rfl
  t51 := Tryz.underlying430
  a51 := Tryz.isAgg430
  z51 := Tryz.sizeOf430
  v51 := Tryz.zeroValue430
  i51 := by kernel_rfl
  t53 := Tryz.underlying432
  a53 := Tryz.isAgg432
  z53 := Tryz.sizeOf432
  v53 := Tryz.zeroValue432
  i53 := by kernel_rfl
  t54 := Tryz.underlying433
  a54 := Tryz.isAgg433
  z54 := Tryz.sizeOf433
  v54 := Tryz.zeroValue433
  i54 := by kernel_rfl
  t58 := Tryz.underlying275
  a58 := Tryz.isAgg275
  z58 := Tryz.sizeOf275
  v58 := Tryz.zeroValue275
  i58 := by kernel_rfl
  t60 := Tryz.underlying458
  a60 := Tryz.isAgg458
  z60 := Tryz.sizeOf458
  v60 := Tryz.zeroValue458
  i60 := by kernel_rfl
  t64 := Tryz.underlying297
  a64 := Tryz.isAgg297
  z64 := Tryz.sizeOf297
  v64 := Tryz.zeroValue297
  i64 := by kernel_rfl
  t66 := Tryz.underlying470
  a66 := Tryz.isAgg470
  z66 := Tryz.sizeOf470
  v66 := Tryz.zeroValue470
  i66 := by kernel_rfl
  t67 := Tryz.underlying48
  a67 := Tryz.isAgg48
  z67 := Tryz.sizeOf48
  v67 := Tryz.zeroValue48
  i67 := by kernel_rfl
  t75 := Tryz.underlying480
  a75 := Tryz.isAgg480
  z75 := Tryz.sizeOf480
  v75 := Tryz.zeroValue480
  i75 := by kernel_rfl
  t76 := Tryz.underlying481
  a76 := Tryz.isAgg481
  z76 := Tryz.sizeOf481
  v76 := Tryz.zeroValue481
  i76 := by kernel_rfl
  t77 := Tryz.underlying482
  a77 := Tryz.isAgg482
  z77 := Tryz.sizeOf482
  v77 := Tryz.zeroValue482
  i77 := by kernel_rfl
  t78 := Tryz.underlying483
  a78 := Tryz.isAgg483
  z78 := Tryz.sizeOf483
  v78 := Tryz.zeroValue483
  i78 := by kernel_rfl
  t79 := Tryz.underlying484
  a79 := Tryz.isAgg484
  z79 := Tryz.sizeOf484
  v79 := Tryz.zeroValue484
  i79 := by kernel_rfl
  t80 := Tryz.underlying485
  a80 := Tryz.isAgg485
  z80 := Tryz.sizeOf485
  v80 := Tryz.zeroValue485
  i80 := by kernel_rfl
  t82 := Tryz.underlying487
  a82 := Tryz.isAgg487
  z82 := Tryz.sizeOf487
  v82 := Tryz.zeroValue487
  i82 := by kernel_rfl }
open Go.RowKit Go.Lib Go.Sort in
theorem Tryz.insertionSort_func_cells {α : Type} [Inhabited α] (enc : α → List Value) (k : Nat) (hk : ∀ x, (enc x).length = k) (lt : α → α → Bool) (g : Nat) (lb : Array Value) (sf : Nat) (sb : Array Value) (blk off a b : Nat) (d : Array α) (w : World) (eg : ∀ args w, (callFunc g args).run Tryz.prog w = .ok (.enter g args) w) (hless : LessReadsK Tryz.prog g lb enc k lt blk off d.size w) (hswap : SwapSwapsK Tryz.prog sf sb enc k blk off d.size) (hH : HoldsK enc k w blk off d) (hblk : blk < w.heap.size) (hab : a ≤ b) (hb : b ≤ d.size) (hsz : d.size < 4611686018427387904) :
    Calls Tryz.prog 329 #[.agg #[.func (.func g) #[] lb, .func (.func sf) #[] sb], .int .i64 a, .int .i64 b] w fun e w' =>
      e = .returned (.tuple #[]) ∧ ∃ n, w' = putRowK enc k (Sort.ahead (w.alloc (.cells #[.func (.func g) #[] lb, .func (.func sf) #[] sb] 402)) n) blk off (Sort.insertionSort lt d a b) := Any.insertionSort_func_cells Tryz.laysGg26 enc k hk lt g lb sf sb blk off a b d w eg hless hswap hH hblk hab hb hsz
open Go.RowKit Go.Lib Go.Sort in
/-- sort.pdqsort_func AT A RANGE OF AT MOST 12. (LAID: no walk: one application.) -/
theorem Tryz.pdqsort_func_small_cells {α : Type} [Inhabited α] (enc : α → List Value) (k : Nat) (hk : ∀ x, (enc x).length = k) (lt : α → α → Bool) (g : Nat) (lb : Array Value) (sf : Nat) (sb : Array Value) (blk off a b : Nat) (lim : Int) (d : Array α) (w : World) (eg : ∀ args w, (callFunc g args).run Tryz.prog w = .ok (.enter g args) w) (hless : LessReadsK Tryz.prog g lb enc k lt blk off d.size w) (hswap : SwapSwapsK Tryz.prog sf sb enc k blk off d.size) (hH : HoldsK enc k w blk off d) (hblk : blk < w.heap.size) (hab : a ≤ b) (hb : b ≤ d.size) (hsz : d.size < 4611686018427387904) (h12 : b - a ≤ 12) :
    Calls Tryz.prog 289 #[.agg #[.func (.func g) #[] lb, .func (.func sf) #[] sb], .int .i64 a, .int .i64 b, .int .i64 lim] w fun e w' =>
      e = .returned (.tuple #[]) ∧ ∃ n, w' = putRowK enc k (Sort.ahead ((w.alloc (.cells #[.func (.func g) #[] lb, .func (.func sf) #[] sb] 402)).alloc (.cells #[.func (.func g) #[] lb, .func (.func sf) #[] sb] 402)) n) blk off (Sort.insertionSort lt d a b) := Any.pdqsort_func_small_cells Tryz.laysGg14 enc k hk lt g lb sf sb blk off a b lim d w eg hless hswap hH hblk hab hb hsz h12
open Go.RowKit Go.Lib Go.Sort in
theorem Tryz.insertionSort_func_none (lf : Fn) (la lb : Array Value) (f : Nat) (sb : Array Value) (a b : Nat) (h : b ≤ a + 1) (ha : a < 4611686018427387904) (w : World) :
    Calls Tryz.prog 329 #[.agg #[.func lf la lb, .func (.func f) #[] sb], .int .i64 a, .int .i64 b] w fun e w' => e = .returned (.tuple #[]) ∧ w' = w.alloc (.cells #[.func lf la lb, .func (.func f) #[] sb] 402) := Any.insertionSort_func_none Tryz.laysGg26 lf la lb f sb a b h ha w
open Go.RowKit Go.Lib Go.Sort in
theorem Tryz.pdqsort_func_tiny (lf : Fn) (la lb : Array Value) (f : Nat) (sb : Array Value) (n : Nat) (h : n ≤ 1) (lim : Int) (w : World) :
    Calls Tryz.prog 289 #[.agg #[.func lf la lb, .func (.func f) #[] sb], .int .i64 0, .int .i64 n, .int .i64 lim] w fun e w' => e = .returned (.tuple #[]) ∧ w' = (w.alloc (.cells #[.func lf la lb, .func (.func f) #[] sb] 402)).alloc (.cells #[.func lf la lb, .func (.func f) #[] sb] 402) := Any.pdqsort_func_tiny Tryz.laysGg14 lf la lb f sb n h lim w
open Go.RowKit Go.Sort in
/-- .. and plain. (LAID: no walk: one application.) -/
theorem Tryz.slices_Sort_int_none (p : Option Addr) (cap : Nat) (w : World) :
    Calls Tryz.prog 243 #[.slice p 0 cap] w fun e w' => e = .returned (.tuple #[]) ∧ w' = w := Any.slices_Sort_int_none Tryz.lays189 p cap w
open Go.RowKit Go.Sort in
/-- .. and plain. (LAID: no walk: one application.) -/
theorem Tryz.sort_Ints_none (p : Option Addr) (cap : Nat) (w : World) :
    Calls Tryz.prog 171 #[.slice p 0 cap] w fun e w' => e = .returned (.tuple #[]) ∧ w' = w := Any.sort_Ints_none Tryz.lays191 p cap w
def Tryz.laysSlB13_ren : Go.Shelf.Ren := ⟨fun | 13 => 159 | 24 => 234 | 25 => 235 | 12 => 236 | 31 => 290 | 19 => 291 | 20 => 292 | 21 => 293 | 22 => 294 | 23 => 295 | 29 => 337 | 30 => 338 | n => n, fun | 22 => 35 | 3 => 3 | 4 => 4 | 0 => 0 | 5 => 5 | 9 => 9 | 33 => 358 | 40 => 438 | 39 => 64 | n => n, fun | 0 => 0 | n => n⟩
theorem Tryz.laysSlB13 : Go.Proofs.SlLaysB.n13 Tryz.prog Tryz.laysSlB13_ren := {
  mixed := by kernel_rfl
  f13 := Tryz.func159.trans (congrArg some (by kernel_rfl))
  f25 := Tryz.func235.trans (congrArg some (by kernel_rfl))
  t0 := Tryz.underlying0
  a0 := Tryz.isAgg0
  z0 := Tryz.sizeOf0
  v0 := Tryz.zeroValue0
  t3 := Tryz.underlying3
  a3 := Tryz.isAgg3
  z3 := Tryz.sizeOf3
  v3 := Tryz.zeroValue3
  t4 := Tryz.underlying4
  a4 := Tryz.isAgg4
  z4 := Tryz.sizeOf4
  v4 := Tryz.zeroValue4
  t5 := Tryz.underlying5
  a5 := Tryz.isAgg5
  z5 := Tryz.sizeOf5
  v5 := Tryz.zeroValue5
  t22 := Tryz.underlying35
  a22 := Tryz.isAgg35
  z22 := Tryz.sizeOf35
  v22 := Tryz.zeroValue35 }
open Go.RowKit Go.Lib in
/-- bytes.Count at a separator of one byte: "Count counts the number of non-overlapping instances of sep in s.": how often that byte stands among s's ('Lib.countByte': 'List.count'); the world is as it was. 'xs': s's elements; 'cv': the separator's one byte. (LAID: no walk: one application.) -/
theorem Tryz.bytes_Count_one (b o n c b2 o2 d : Nat) (xs : List Int) (cv : Int) (w : World) (hx : xs.length = n) (hc : ∀ i, i < n → w.cell? ⟨b, o + i, none⟩ = some (.int .u8 (xs.getD i 0))) (hc2 : w.cell? ⟨b2, o2, none⟩ = some (.int .u8 cv)) :
    Calls Tryz.prog 159 #[.slice (some ⟨b, o, none⟩) n c, .slice (some ⟨b2, o2, none⟩) 1 d] w fun e w' => e = .returned (.int .i64 (Lib.countByte (Lib.bytesOf xs) cv.toNat.toUInt8)) ∧ w' = w := Any.bytes_Count_one Tryz.laysSlB13 b o n c b2 o2 d xs cv w hx hc hc2
open Go.RowKit Go.Lib in
/-- The same, s AT WHATEVER ADDRESS, its cells as 'open_ints' hands them ('a.add i'). (LAID: no walk: one application.) -/
theorem Tryz.bytes_Count_one_at (a : Addr) (n c b2 o2 d : Nat) (xs : List Int) (cv : Int) (w : World) (hx : xs.length = n) (hc : ∀ i, i < n → w.cell? (a.add i) = some (.int .u8 (xs.getD i 0))) (hc2 : w.cell? ⟨b2, o2, none⟩ = some (.int .u8 cv)) :
    Calls Tryz.prog 159 #[.slice (some a) n c, .slice (some ⟨b2, o2, none⟩) 1 d] w fun e w' => e = .returned (.int .i64 (Lib.countByte (Lib.bytesOf xs) cv.toNat.toUInt8)) ∧ w' = w := Any.bytes_Count_one_at Tryz.laysSlB13 a n c b2 o2 d xs cv w hx hc hc2
open Go.RowKit Go.Lib in
/-- The same where s is nil: 0. (LAID: no walk: one application.) -/
theorem Tryz.bytes_Count_one_nil (b2 o2 d : Nat) (cv : Int) (w : World) (hc2 : w.cell? ⟨b2, o2, none⟩ = some (.int .u8 cv)) :
    Calls Tryz.prog 159 #[.slice none 0 0, .slice (some ⟨b2, o2, none⟩) 1 d] w fun e w' => e = .returned (.int .i64 0) ∧ w' = w := Any.bytes_Count_one_nil Tryz.laysSlB13 b2 o2 d cv w hc2
end Go.Proofs
