/-
  DERIVED: THE SHELF's CONTRACTS AT THIS DUMP, IN PLAIN WORDS (tools/lay-plain.mjs out of 'TryzShelf.lean', which tools/lay-shelf.mjs wrote): THE SAME DECLARATIONS UNDER THE SAME NAMES: 'import', 'namespace', 'open', 'def', 'theorem' AND NOTHING ELSE: no command of the shelf's: FOR A HAND-IN. Each laying: the table of numbers ('.._ren') and one theorem, a field a fact of the dump's own or the kernel's comparison; each contract: ONE APPLICATION.
-/
import Derived.Shelf.Small.Bits
import Derived.Shelf.Utf8.RuneCount
import Derived.Shelf.Strconv.Itoa0
import Derived.Shelf.Strings.Search1
import Derived.Ground.GgsProg
import Derived.Shelf.GgSortFunc.Insertion
import Derived.Shelf.GgSortFunc.Small
import Derived.Shelf.GgSortFunc.InsertionK
import Derived.Shelf.GgSortFunc.SmallK
import Derived.Shelf.GgSortFunc.Tiny
import Derived.Shelf.Strings.RuneCount
import Derived.Ground.Names2Prog
import Derived.Shelf.Slices.SearchI
import Derived.Ground.SlbNamesProg
import Derived.Shelf.Bytes.SlCountOne
import Derived.Test.YtgpceblcfkcckaaGreatProg
namespace Go.Proofs
open Go.Shelf
def Tryz.laysGg6_ren : Go.Shelf.Ren := ⟨fun | 6 => 173 | 10 => 189 | 11 => 190 | 12 => 191 | 13 => 176 | 14 => 192 | 24 => 202 | 25 => 203 | 26 => 221 | 27 => 222 | 28 => 223 | 29 => 224 | 30 => 225 | 31 => 226 | 32 => 227 | 33 => 228 | 34 => 240 | 35 => 241 | 36 => 242 | 37 => 243 | 38 => 244 | 39 => 252 | n => n, fun | 20 => 20 | 26 => 56 | 35 => 295 | 0 => 0 | 37 => 297 | 3 => 3 | 41 => 251 | 44 => 301 | 49 => 196 | 51 => 311 | 4 => 4 | 54 => 327 | 53 => 326 | 58 => 281 | 5 => 5 | 9 => 9 | 60 => 339 | 64 => 207 | 66 => 344 | 67 => 312 | 17 => 17 | 32 => 292 | 33 => 293 | 82 => 361 | 12 => 12 | 75 => 354 | 76 => 355 | 77 => 356 | 78 => 357 | 79 => 358 | 80 => 359 | n => n, fun | n => n⟩
theorem Tryz.laysGg6 : Go.Proofs.LaysGg.n6 Tryz.prog Tryz.laysGg6_ren := {
  mixed := by kernel_rfl
  f6 := Tryz.func173.trans (congrArg some (by kernel_rfl))
  f10 := Tryz.func189.trans (congrArg some (by kernel_rfl))
  f11 := Tryz.func190.trans (congrArg some (by kernel_rfl))
  f12 := Tryz.func191.trans (congrArg some (by kernel_rfl))
  f13 := Tryz.func176.trans (congrArg some (by kernel_rfl))
  f14 := Tryz.func192.trans (congrArg some (by kernel_rfl))
  f24 := Tryz.func202.trans (congrArg some (by kernel_rfl))
  f25 := Tryz.func203.trans (congrArg some (by kernel_rfl))
  f26 := Tryz.func221.trans (congrArg some (by kernel_rfl))
  f27 := Tryz.func222.trans (congrArg some (by kernel_rfl))
  f28 := Tryz.func223.trans (congrArg some (by kernel_rfl))
  f29 := Tryz.func224.trans (congrArg some (by kernel_rfl))
  f30 := Tryz.func225.trans (congrArg some (by kernel_rfl))
  f31 := Tryz.func226.trans (congrArg some (by kernel_rfl))
  f32 := Tryz.func227.trans (congrArg some (by kernel_rfl))
  f33 := Tryz.func228.trans (congrArg some (by kernel_rfl))
  f34 := Tryz.func240.trans (congrArg some (by kernel_rfl))
  f35 := Tryz.func241.trans (congrArg some (by kernel_rfl))
  f36 := Tryz.func242.trans (congrArg some (by kernel_rfl))
  f37 := Tryz.func243.trans (congrArg some (by kernel_rfl))
  f38 := Tryz.func244.trans (congrArg some (by kernel_rfl))
  f39 := Tryz.func252.trans (congrArg some (by kernel_rfl))
  t0 := Tryz.underlying0
  a0 := Tryz.isAgg0
  z0 := Tryz.sizeOf0
  v0 := Tryz.zeroValue0
  i0 := by kernel_rfl
  t3 := Tryz.underlying3
  a3 := Tryz.isAgg3
  z3 := Tryz.sizeOf3
  v3 := Tryz.zeroValue3
  i3 := by kernel_rfl
  t4 := Tryz.underlying4
  a4 := Tryz.isAgg4
  z4 := Tryz.sizeOf4
  v4 := Tryz.zeroValue4
  i4 := by kernel_rfl
  t5 := Tryz.underlying5
  a5 := Tryz.isAgg5
  z5 := Tryz.sizeOf5
  v5 := Tryz.zeroValue5
  i5 := by kernel_rfl
  t9 := Tryz.underlying9
  a9 := Tryz.isAgg9
  z9 := Tryz.sizeOf9
  v9 := Tryz.zeroValue9
  i9 := by kernel_rfl
  t12 := Tryz.underlying12
  a12 := Tryz.isAgg12
  z12 := Tryz.sizeOf12
  v12 := Tryz.zeroValue12
  i12 := by kernel_rfl
  t17 := Tryz.underlying17
  a17 := Tryz.isAgg17
  z17 := Tryz.sizeOf17
  v17 := Tryz.zeroValue17
  i17 := by kernel_rfl
  t20 := Tryz.underlying20
  a20 := Tryz.isAgg20
  z20 := Tryz.sizeOf20
  v20 := Tryz.zeroValue20
  i20 := by kernel_rfl
  t26 := Tryz.underlying56
  a26 := Tryz.isAgg56
  z26 := Tryz.sizeOf56
  v26 := Tryz.zeroValue56
  i26 := by kernel_rfl
  t32 := Tryz.underlying292
  a32 := Tryz.isAgg292
  z32 := Tryz.sizeOf292
  v32 := Tryz.zeroValue292
  i32 := by kernel_rfl
  t33 := Tryz.underlying293
  a33 := Tryz.isAgg293
  z33 := Tryz.sizeOf293
  v33 := Tryz.zeroValue293
  i33 := by kernel_rfl
  t35 := Tryz.underlying295
  a35 := Tryz.isAgg295
  z35 := Tryz.sizeOf295
  v35 := Tryz.zeroValue295
  i35 := by kernel_rfl
  t37 := Tryz.underlying297
  a37 := Tryz.isAgg297
  z37 := Tryz.sizeOf297
  v37 := Tryz.zeroValue297
  i37 := by kernel_rfl
  t41 := Tryz.underlying251
  a41 := Tryz.isAgg251
  z41 := Tryz.sizeOf251
  v41 := Tryz.zeroValue251
  i41 := by kernel_rfl
  t44 := Tryz.underlying301
  a44 := Tryz.isAgg301
  z44 := Tryz.sizeOf301
  v44 := Tryz.zeroValue301
  i44 := by kernel_rfl
  t49 := Tryz.underlying196
  a49 := Tryz.isAgg196
  z49 := Tryz.sizeOf196
  v49 := Tryz.zeroValue196
  i49 := by kernel_rfl
  t51 := Tryz.underlying311
  a51 := Tryz.isAgg311
  z51 := Tryz.sizeOf311
  v51 := Tryz.zeroValue311
  i51 := by kernel_rfl
  t53 := Tryz.underlying326
  a53 := Tryz.isAgg326
  z53 := Tryz.sizeOf326
  v53 := Tryz.zeroValue326
  i53 := by kernel_rfl
  t54 := Tryz.underlying327
  a54 := Tryz.isAgg327
  z54 := Tryz.sizeOf327
  v54 := Tryz.zeroValue327
  i54 := by kernel_rfl
  t58 := Tryz.underlying281
  a58 := Tryz.isAgg281
  z58 := Tryz.sizeOf281
  v58 := Tryz.zeroValue281
  i58 := by kernel_rfl
  t60 := Tryz.underlying339
  a60 := Tryz.isAgg339
  z60 := Tryz.sizeOf339
  v60 := Tryz.zeroValue339
  i60 := by kernel_rfl
  t64 := Tryz.underlying207
  a64 := Tryz.isAgg207
  z64 := Tryz.sizeOf207
  v64 := Tryz.zeroValue207
  i64 := by kernel_rfl
  t66 := Tryz.underlying344
  a66 := Tryz.isAgg344
  z66 := Tryz.sizeOf344
  v66 := Tryz.zeroValue344
  i66 := by kernel_rfl
  t67 := Tryz.underlying312
  a67 := Tryz.isAgg312
  z67 := Tryz.sizeOf312
  v67 := Tryz.zeroValue312
  i67 := by kernel_rfl
  t75 := Tryz.underlying354
  a75 := Tryz.isAgg354
  z75 := Tryz.sizeOf354
  v75 := Tryz.zeroValue354
  i75 := by kernel_rfl
  t76 := Tryz.underlying355
  a76 := Tryz.isAgg355
  z76 := Tryz.sizeOf355
  v76 := Tryz.zeroValue355
  i76 := by kernel_rfl
  t77 := Tryz.underlying356
  a77 := Tryz.isAgg356
  z77 := Tryz.sizeOf356
  v77 := Tryz.zeroValue356
  i77 := by kernel_rfl
  t78 := Tryz.underlying357
  a78 := Tryz.isAgg357
  z78 := Tryz.sizeOf357
  v78 := Tryz.zeroValue357
  i78 := by kernel_rfl
  t79 := Tryz.underlying358
  a79 := Tryz.isAgg358
  z79 := Tryz.sizeOf358
  v79 := Tryz.zeroValue358
  i79 := by kernel_rfl
  t80 := Tryz.underlying359
  a80 := Tryz.isAgg359
  z80 := Tryz.sizeOf359
  v80 := Tryz.zeroValue359
  i80 := by kernel_rfl
  t82 := Tryz.underlying361
  a82 := Tryz.isAgg361
  z82 := Tryz.sizeOf361
  v82 := Tryz.zeroValue361
  i82 := by kernel_rfl }
def Tryz.laysSlB13_ren : Go.Shelf.Ren := ⟨fun | 13 => 211 | 24 => 237 | 25 => 238 | 12 => 239 | 31 => 246 | 19 => 247 | 20 => 248 | 21 => 249 | 22 => 250 | 23 => 251 | 29 => 253 | 30 => 254 | n => n, fun | 22 => 36 | 3 => 3 | 4 => 4 | 0 => 0 | 5 => 5 | 9 => 9 | 33 => 251 | 40 => 346 | 39 => 196 | n => n, fun | 0 => 0 | n => n⟩
theorem Tryz.laysSlB13 : Go.Proofs.SlLaysB.n13 Tryz.prog Tryz.laysSlB13_ren := {
  mixed := by kernel_rfl
  f13 := Tryz.func211.trans (congrArg some (by kernel_rfl))
  f25 := Tryz.func238.trans (congrArg some (by kernel_rfl))
  t0 := Tryz.underlying0
  a0 := Tryz.isAgg0
  z0 := Tryz.sizeOf0
  v0 := Tryz.zeroValue0
  t3 := Tryz.underlying3
  a3 := Tryz.isAgg3
  z3 := Tryz.sizeOf3
  v3 := Tryz.zeroValue3
  t4 := Tryz.underlying4
  a4 := Tryz.isAgg4
  z4 := Tryz.sizeOf4
  v4 := Tryz.zeroValue4
  t5 := Tryz.underlying5
  a5 := Tryz.isAgg5
  z5 := Tryz.sizeOf5
  v5 := Tryz.zeroValue5
  t22 := Tryz.underlying36
  a22 := Tryz.isAgg36
  z22 := Tryz.sizeOf36
  v22 := Tryz.zeroValue36 }
end Go.Proofs
