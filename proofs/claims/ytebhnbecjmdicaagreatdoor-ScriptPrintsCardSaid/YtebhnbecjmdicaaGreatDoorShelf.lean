/-
  DERIVED: THE SHELF's CONTRACTS AT THIS DUMP, IN PLAIN WORDS (tools/lay-plain.mjs out of 'TryzShelf.lean', which tools/lay-shelf.mjs wrote): THE SAME DECLARATIONS UNDER THE SAME NAMES: 'import', 'namespace', 'open', 'def', 'theorem' AND NOTHING ELSE: no command of the shelf's: FOR A HAND-IN. Each laying: the table of numbers ('.._ren') and one theorem, a field a fact of the dump's own or the kernel's comparison; each contract: ONE APPLICATION.
-/
import Derived.Shelf.Strings.Builder1
import Derived.Shelf.Strings.Builder2
import Derived.Shelf.Strings.OnBuilder
import Derived.Shelf.Small.Bits
import Derived.Shelf.Small.Wraps
import Derived.Shelf.Strings.BuilderF
import Derived.Shelf.Strings.BuilderK
import Derived.Shelf.Utf8.RuneCount
import Derived.Shelf.Strings.Builder2Cap
import Derived.Shelf.Strconv.Atoi
import Derived.Shelf.Strconv.Itoa0
import Derived.Shelf.Strconv.Itoa1
import Derived.Shelf.LaysM
import Derived.Shelf.Strconv.Itoa2
import Derived.Shelf.Strconv.Itoa3
import Derived.Shelf.Strconv.AtoiErrFast
import Derived.Shelf.Strconv.ParseIntEmpty
import Derived.Shelf.Strconv.AtoiFail
import Derived.Shelf.Strconv.Clone
import Derived.Shelf.Strconv.SyntaxError
import Derived.Shelf.LaysC
import Derived.Shelf.Strconv.ToError
import Derived.Shelf.Strconv.Lower
import Derived.Shelf.Strconv.ParseUint10
import Derived.Shelf.Strconv.ParseUint10Empty
import Derived.Shelf.Strconv.ParseUint10Any
import Derived.Shelf.Strconv.ParseInt10
import Derived.Shelf.Strconv.AtoiLong
import Derived.Shelf.Strconv.AtoiInnerAll
import Derived.Shelf.Strconv.RangeError
import Derived.Shelf.Strconv.ToErrorRange
import Derived.Shelf.Strconv.AtoiAll
import Derived.Shelf.Strconv.ErrVarAll
import Derived.Shelf.Strconv.ParseUintEmpty
import Derived.Shelf.Strconv.ParseUint10b16
import Derived.Shelf.Strings.Search1
import Derived.Shelf.Strings.Search2
import Derived.Shelf.Strings.Cut
import Derived.Shelf.Strings.Shaped
import Derived.Shelf.Sort.Plain
import Derived.Ground.GgsProg
import Derived.Shelf.GgSortFunc.Insertion
import Derived.Shelf.GgSortFunc.Small
import Derived.Shelf.GgSortFunc.InsertionK
import Derived.Shelf.GgSortFunc.SmallK
import Derived.Shelf.GgSortFunc.Tiny
import Derived.Shelf.Strings.RuneCount
import Derived.Ground.Names2Prog
import Derived.Shelf.Slices.SearchI
import Derived.Shelf.Slices.In.SortNone
import Derived.Shelf.Slices.In.SortNone2
import Derived.Shelf.Bytes.SlIndexSmall
import Derived.Ground.SlbNamesProg
import Derived.Shelf.Bytes.SlCountOne
import Derived.Shelf.Bytes.SlSearch1
import Derived.Shelf.Bytes.Small
import Derived.Shelf.Bytes.IndexByte
import Derived.Test.YtebhnbecjmdicaaGreatDoorProg
namespace Go.Proofs
open Go.Shelf
def Tryz.lays156_ren : Go.Shelf.Ren := ⟨fun | 156 => 57 | 165 => 103 | 166 => 30 | 169 => 33 | 240 => 41 | 241 => 155 | 276 => 56 | 277 => 213 | n => n, fun | 31 => 70 | 9 => 9 | 3 => 3 | 4 => 4 | 0 => 0 | 20 => 20 | 72 => 62 | 76 => 65 | 70 => 60 | 37 => 23 | 75 => 64 | 127 => 98 | 164 => 108 | 5 => 5 | 80 => 68 | n => n, fun | n => n⟩
theorem Tryz.lays156 : Go.Proofs.Lays.n156 Tryz.prog Tryz.lays156_ren := {
  mixed := by kernel_rfl
  f156 := Tryz.func57.trans (congrArg some (by kernel_rfl))
  f165 := Tryz.func103.trans (congrArg some (by kernel_rfl))
  f166 := Tryz.func30.trans (congrArg some (by kernel_rfl))
  f169 := Tryz.func33.trans (congrArg some (by kernel_rfl))
  f240 := Tryz.func41.trans (congrArg some (by kernel_rfl))
  f241 := Tryz.func155.trans (congrArg some (by kernel_rfl))
  f276 := Tryz.func56.trans (congrArg some (by kernel_rfl))
  f277 := Tryz.func213.trans (congrArg some (by kernel_rfl))
  t0 := Tryz.underlying0
  a0 := Tryz.isAgg0
  z0 := Tryz.sizeOf0
  v0 := Tryz.zeroValue0
  t3 := Tryz.underlying3
  a3 := Tryz.isAgg3
  z3 := Tryz.sizeOf3
  v3 := Tryz.zeroValue3
  t4 := Tryz.underlying4
  a4 := Tryz.isAgg4
  z4 := Tryz.sizeOf4
  v4 := Tryz.zeroValue4
  t9 := Tryz.underlying9
  a9 := Tryz.isAgg9
  z9 := Tryz.sizeOf9
  v9 := Tryz.zeroValue9
  t20 := Tryz.underlying20
  a20 := Tryz.isAgg20
  z20 := Tryz.sizeOf20
  v20 := Tryz.zeroValue20
  t31 := Tryz.underlying70
  a31 := Tryz.isAgg70
  z31 := Tryz.sizeOf70
  v31 := Tryz.zeroValue70
  t37 := Tryz.underlying23
  a37 := Tryz.isAgg23
  z37 := Tryz.sizeOf23
  v37 := Tryz.zeroValue23
  t70 := Tryz.underlying60
  a70 := Tryz.isAgg60
  z70 := Tryz.sizeOf60
  v70 := Tryz.zeroValue60
  t72 := Tryz.underlying62
  a72 := Tryz.isAgg62
  z72 := Tryz.sizeOf62
  v72 := Tryz.zeroValue62
  t75 := Tryz.underlying64
  a75 := Tryz.isAgg64
  z75 := Tryz.sizeOf64
  v75 := Tryz.zeroValue64
  t76 := Tryz.underlying65
  a76 := Tryz.isAgg65
  z76 := Tryz.sizeOf65
  v76 := Tryz.zeroValue65
  t127 := Tryz.underlying98
  a127 := Tryz.isAgg98
  z127 := Tryz.sizeOf98
  v127 := Tryz.zeroValue98
  t164 := Tryz.underlying108
  a164 := Tryz.isAgg108
  z164 := Tryz.sizeOf108
  v164 := Tryz.zeroValue108 }
theorem Tryz.Builder_Extra_156 : Builder.Extra Tryz.prog Tryz.lays156_ren := {
  sizeBuilder := by kernel_rfl
  liesBuilder := by kernel_rfl
  t5 := Tryz.underlying5
  a5 := Tryz.isAgg5
  z5 := Tryz.sizeOf5
  v5 := Tryz.zeroValue5
  infoByte := by kernel_rfl
  cellsByte := by kernel_rfl
  sizeByte := by kernel_rfl
  neB5 := by decide }
def Tryz.lays219_ren : Go.Shelf.Ren := ⟨fun | 219 => 51 | 217 => 93 | 225 => 94 | 224 => 95 | 267 => 96 | 266 => 149 | 314 => 150 | n => n, fun | 9 => 9 | 3 => 3 | 4 => 4 | 5 => 5 | 46 => 69 | 146 => 221 | 51 => 218 | n => n, fun | 1 => 0 | n => n⟩
theorem Tryz.lays219 : Go.Proofs.Lays.n219 Tryz.prog Tryz.lays219_ren := {
  mixed := by kernel_rfl
  f217 := Tryz.func93.trans (congrArg some (by kernel_rfl))
  f219 := Tryz.func51.trans (congrArg some (by kernel_rfl))
  f224 := Tryz.func95.trans (congrArg some (by kernel_rfl))
  f225 := Tryz.func94.trans (congrArg some (by kernel_rfl))
  f266 := Tryz.func149.trans (congrArg some (by kernel_rfl))
  f267 := Tryz.func96.trans (congrArg some (by kernel_rfl))
  f314 := Tryz.func150.trans (congrArg some (by kernel_rfl))
  t3 := Tryz.underlying3
  a3 := Tryz.isAgg3
  z3 := Tryz.sizeOf3
  v3 := Tryz.zeroValue3
  t4 := Tryz.underlying4
  a4 := Tryz.isAgg4
  z4 := Tryz.sizeOf4
  v4 := Tryz.zeroValue4
  t5 := Tryz.underlying5
  a5 := Tryz.isAgg5
  z5 := Tryz.sizeOf5
  v5 := Tryz.zeroValue5
  t9 := Tryz.underlying9
  a9 := Tryz.isAgg9
  z9 := Tryz.sizeOf9
  v9 := Tryz.zeroValue9
  t46 := Tryz.underlying69
  a46 := Tryz.isAgg69
  z46 := Tryz.sizeOf69
  v46 := Tryz.zeroValue69
  t51 := Tryz.underlying218
  a51 := Tryz.isAgg218
  z51 := Tryz.sizeOf218
  v51 := Tryz.zeroValue218
  t146 := Tryz.underlying221
  a146 := Tryz.isAgg221
  z146 := Tryz.sizeOf221
  v146 := Tryz.zeroValue221
  g1 := by kernel_rfl }
def Tryz.laysGg6_ren : Go.Shelf.Ren := ⟨fun | 6 => 379 | 10 => 385 | 11 => 386 | 12 => 387 | 13 => 268 | 14 => 388 | 24 => 339 | 25 => 145 | 26 => 399 | 27 => 400 | 28 => 401 | 29 => 402 | 30 => 403 | 31 => 404 | 32 => 405 | 33 => 406 | 34 => 407 | 35 => 408 | 36 => 409 | 37 => 410 | 38 => 411 | 39 => 412 | n => n, fun | 20 => 20 | 26 => 114 | 35 => 488 | 0 => 0 | 37 => 490 | 3 => 3 | 41 => 69 | 44 => 494 | 49 => 218 | 51 => 102 | 4 => 4 | 54 => 503 | 53 => 502 | 58 => 52 | 5 => 5 | 9 => 9 | 60 => 508 | 64 => 393 | 66 => 511 | 67 => 143 | 17 => 17 | 32 => 108 | 33 => 486 | 82 => 524 | 12 => 12 | 75 => 518 | 76 => 519 | 77 => 520 | 78 => 98 | 79 => 521 | 80 => 522 | n => n, fun | n => n⟩
theorem Tryz.laysGg6 : Go.Proofs.LaysGg.n6 Tryz.prog Tryz.laysGg6_ren := {
  mixed := by kernel_rfl
  f6 := Tryz.func379.trans (congrArg some (by kernel_rfl))
  f10 := Tryz.func385.trans (congrArg some (by kernel_rfl))
  f11 := Tryz.func386.trans (congrArg some (by kernel_rfl))
  f12 := Tryz.func387.trans (congrArg some (by kernel_rfl))
  f13 := Tryz.func268.trans (congrArg some (by kernel_rfl))
  f14 := Tryz.func388.trans (congrArg some (by kernel_rfl))
  f24 := Tryz.func339.trans (congrArg some (by kernel_rfl))
  f25 := Tryz.func145.trans (congrArg some (by kernel_rfl))
  f26 := Tryz.func399.trans (congrArg some (by kernel_rfl))
  f27 := Tryz.func400.trans (congrArg some (by kernel_rfl))
  f28 := Tryz.func401.trans (congrArg some (by kernel_rfl))
  f29 := Tryz.func402.trans (congrArg some (by kernel_rfl))
  f30 := Tryz.func403.trans (congrArg some (by kernel_rfl))
  f31 := Tryz.func404.trans (congrArg some (by kernel_rfl))
  f32 := Tryz.func405.trans (congrArg some (by kernel_rfl))
  f33 := Tryz.func406.trans (congrArg some (by kernel_rfl))
  f34 := Tryz.func407.trans (congrArg some (by kernel_rfl))
  f35 := Tryz.func408.trans (congrArg some (by kernel_rfl))
  f36 := Tryz.func409.trans (congrArg some (by kernel_rfl))
  f37 := Tryz.func410.trans (congrArg some (by kernel_rfl))
  f38 := Tryz.func411.trans (congrArg some (by kernel_rfl))
  f39 := Tryz.func412.trans (congrArg some (by kernel_rfl))
  t0 := Tryz.underlying0
  a0 := Tryz.isAgg0
  z0 := Tryz.sizeOf0
  v0 := Tryz.zeroValue0
  i0 := by kernel_rfl
  t3 := Tryz.underlying3
  a3 := Tryz.isAgg3
  z3 := Tryz.sizeOf3
  v3 := Tryz.zeroValue3
  i3 := by kernel_rfl
  t4 := Tryz.underlying4
  a4 := Tryz.isAgg4
  z4 := Tryz.sizeOf4
  v4 := Tryz.zeroValue4
  i4 := by kernel_rfl
  t5 := Tryz.underlying5
  a5 := Tryz.isAgg5
  z5 := Tryz.sizeOf5
  v5 := Tryz.zeroValue5
  i5 := by kernel_rfl
  t9 := Tryz.underlying9
  a9 := Tryz.isAgg9
  z9 := Tryz.sizeOf9
  v9 := Tryz.zeroValue9
  i9 := by kernel_rfl
  t12 := Tryz.underlying12
  a12 := Tryz.isAgg12
  z12 := Tryz.sizeOf12
  v12 := Tryz.zeroValue12
  i12 := by kernel_rfl
  t17 := Tryz.underlying17
  a17 := Tryz.isAgg17
  z17 := Tryz.sizeOf17
  v17 := Tryz.zeroValue17
  i17 := by kernel_rfl
  t20 := Tryz.underlying20
  a20 := Tryz.isAgg20
  z20 := Tryz.sizeOf20
  v20 := Tryz.zeroValue20
  i20 := by kernel_rfl
  t26 := Tryz.underlying114
  a26 := Tryz.isAgg114
  z26 := Tryz.sizeOf114
  v26 := Tryz.zeroValue114
  i26 := by kernel_rfl
  t32 := Tryz.underlying108
  a32 := Tryz.isAgg108
  z32 := Tryz.sizeOf108
  v32 := Tryz.zeroValue108
  i32 := by kernel_rfl
  t33 := Tryz.underlying486
  a33 := Tryz.isAgg486
  z33 := Tryz.sizeOf486
  v33 := Tryz.zeroValue486
  i33 := by kernel_rfl
  t35 := Tryz.underlying488
  a35 := Tryz.isAgg488
  z35 := Tryz.sizeOf488
  v35 := Tryz.zeroValue488
  i35 := by kernel_rfl
  t37 := Tryz.underlying490
  a37 := Tryz.isAgg490
  z37 := Tryz.sizeOf490
  v37 := Tryz.zeroValue490
  i37 := by kernel_rfl
  t41 := Tryz.underlying69
  a41 := Tryz.isAgg69
  z41 := Tryz.sizeOf69
  v41 := Tryz.zeroValue69
  i41 := by kernel_rfl
  t44 := Tryz.underlying494
  a44 := Tryz.isAgg494
  z44 := Tryz.sizeOf494
  v44 := Tryz.zeroValue494
  i44 := by kernel_rfl
  t49 := Tryz.underlying218
  a49 := Tryz.isAgg218
  z49 := Tryz.sizeOf218
  v49 := Tryz.zeroValue218
  i49 := by kernel_rfl
  t51 := Tryz.underlying102
  a51 := Tryz.isAgg102
  z51 := Tryz.sizeOf102
  v51 := Tryz.zeroValue102
  i51 := by kernel_rfl
  t53 := Tryz.underlying502
  a53 := Tryz.isAgg502
  z53 := Tryz.sizeOf502
  v53 := Tryz.zeroValue502
  i53 := by kernel_rfl
  t54 := Tryz.underlying503
  a54 := Tryz.isAgg503
  z54 := Tryz.sizeOf503
  v54 := Tryz.zeroValue503
  i54 := by kernel_rfl
  t58 := Tryz.underlying52
  a58 := Tryz.isAgg52
  z58 := Tryz.sizeOf52
  v58 := Tryz.zeroValue52
  i58 := by kernel_rfl
  t60 := Tryz.underlying508
  a60 := Tryz.isAgg508
  z60 := Tryz.sizeOf508
  v60 := Tryz.zeroValue508
  i60 := by kernel_rfl
  t64 := Tryz.underlying393
  a64 := Tryz.isAgg393
  z64 := Tryz.sizeOf393
  v64 := Tryz.zeroValue393
  i64 := by kernel_rfl
  t66 := Tryz.underlying511
  a66 := Tryz.isAgg511
  z66 := Tryz.sizeOf511
  v66 := Tryz.zeroValue511
  i66 := by kernel_rfl
  t67 := Tryz.underlying143
  a67 := Tryz.isAgg143
  z67 := Tryz.sizeOf143
  v67 := Tryz.zeroValue143
  i67 := by kernel_rfl
  t75 := Tryz.underlying518
  a75 := Tryz.isAgg518
  z75 := Tryz.sizeOf518
  v75 := Tryz.zeroValue518
  i75 := by kernel_rfl
  t76 := Tryz.underlying519
  a76 := Tryz.isAgg519
  z76 := Tryz.sizeOf519
  v76 := Tryz.zeroValue519
  i76 := by kernel_rfl
  t77 := Tryz.underlying520
  a77 := Tryz.isAgg520
  z77 := Tryz.sizeOf520
  v77 := Tryz.zeroValue520
  i77 := by kernel_rfl
  t78 := Tryz.underlying98
  a78 := Tryz.isAgg98
  z78 := Tryz.sizeOf98
  v78 := Tryz.zeroValue98
  i78 := by kernel_rfl
  t79 := Tryz.underlying521
  a79 := Tryz.isAgg521
  z79 := Tryz.sizeOf521
  v79 := Tryz.zeroValue521
  i79 := by kernel_rfl
  t80 := Tryz.underlying522
  a80 := Tryz.isAgg522
  z80 := Tryz.sizeOf522
  v80 := Tryz.zeroValue522
  i80 := by kernel_rfl
  t82 := Tryz.underlying524
  a82 := Tryz.isAgg524
  z82 := Tryz.sizeOf524
  v82 := Tryz.zeroValue524
  i82 := by kernel_rfl }
def Tryz.laysSlB13_ren : Go.Shelf.Ren := ⟨fun | 13 => 117 | 24 => 185 | 25 => 186 | 12 => 187 | 31 => 251 | 19 => 252 | 20 => 253 | 21 => 254 | 22 => 95 | 23 => 255 | 29 => 323 | 30 => 324 | n => n, fun | 22 => 23 | 3 => 3 | 4 => 4 | 0 => 0 | 5 => 5 | 9 => 9 | 33 => 69 | 40 => 221 | 39 => 218 | n => n, fun | 0 => 0 | n => n⟩
theorem Tryz.laysSlB13 : Go.Proofs.SlLaysB.n13 Tryz.prog Tryz.laysSlB13_ren := {
  mixed := by kernel_rfl
  f13 := Tryz.func117.trans (congrArg some (by kernel_rfl))
  f25 := Tryz.func186.trans (congrArg some (by kernel_rfl))
  t0 := Tryz.underlying0
  a0 := Tryz.isAgg0
  z0 := Tryz.sizeOf0
  v0 := Tryz.zeroValue0
  t3 := Tryz.underlying3
  a3 := Tryz.isAgg3
  z3 := Tryz.sizeOf3
  v3 := Tryz.zeroValue3
  t4 := Tryz.underlying4
  a4 := Tryz.isAgg4
  z4 := Tryz.sizeOf4
  v4 := Tryz.zeroValue4
  t5 := Tryz.underlying5
  a5 := Tryz.isAgg5
  z5 := Tryz.sizeOf5
  v5 := Tryz.zeroValue5
  t22 := Tryz.underlying23
  a22 := Tryz.isAgg23
  z22 := Tryz.sizeOf23
  v22 := Tryz.zeroValue23 }
end Go.Proofs
