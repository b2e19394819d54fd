/-
  DERIVED: THE SHELF's CONTRACTS AT THIS DUMP, IN PLAIN WORDS (tools/lay-plain.mjs out of 'TryzShelf.lean', which tools/lay-shelf.mjs wrote): THE SAME DECLARATIONS UNDER THE SAME NAMES: 'import', 'namespace', 'open', 'def', 'theorem' AND NOTHING ELSE: no command of the shelf's: FOR A HAND-IN. Each laying: the table of numbers ('.._ren') and one theorem, a field a fact of the dump's own or the kernel's comparison; each contract: ONE APPLICATION.
-/
import Derived.Shelf.Strings.Builder1
import Derived.Shelf.Strings.Builder2
import Derived.Shelf.Strings.OnBuilder
import Derived.Shelf.Small.Bits
import Derived.Shelf.Strings.BuilderF
import Derived.Shelf.Strings.BuilderK
import Derived.Shelf.Utf8.RuneCount
import Derived.Shelf.Strconv.Atoi
import Derived.Shelf.Strconv.Itoa0
import Derived.Shelf.Strconv.Itoa1
import Derived.Shelf.LaysM
import Derived.Shelf.Strconv.Itoa2
import Derived.Shelf.Strconv.Itoa3
import Derived.Shelf.Strconv.AtoiErrFast
import Derived.Shelf.Strconv.ParseIntEmpty
import Derived.Shelf.Strconv.AtoiFail
import Derived.Shelf.Strconv.Clone
import Derived.Shelf.Strconv.SyntaxError
import Derived.Shelf.LaysC
import Derived.Shelf.Strconv.ToError
import Derived.Shelf.Strconv.Lower
import Derived.Shelf.Strconv.ParseUint10
import Derived.Shelf.Strconv.ParseUint10Empty
import Derived.Shelf.Strconv.ParseUint10Any
import Derived.Shelf.Strconv.ParseInt10
import Derived.Shelf.Strconv.AtoiLong
import Derived.Shelf.Strconv.AtoiInnerAll
import Derived.Shelf.Strconv.RangeError
import Derived.Shelf.Strconv.ToErrorRange
import Derived.Shelf.Strconv.AtoiAll
import Derived.Shelf.Strconv.ErrVarAll
import Derived.Shelf.Strings.Search1
import Derived.Shelf.Strings.Search2
import Derived.Shelf.Strings.Cut
import Derived.Shelf.Strings.Shaped
import Derived.Ground.GgsProg
import Derived.Shelf.GgSortFunc.Insertion
import Derived.Shelf.GgSortFunc.Small
import Derived.Shelf.GgSortFunc.InsertionK
import Derived.Shelf.GgSortFunc.SmallK
import Derived.Shelf.GgSortFunc.Tiny
import Derived.Shelf.Strings.RuneCount
import Derived.Ground.Names2Prog
import Derived.Shelf.Slices.SearchI
import Derived.Ground.SlbNamesProg
import Derived.Shelf.Bytes.SlCountOne
import Derived.Test.YthkncacabmngoaaGreatDoorProg
namespace Go.Proofs
open Go.Shelf
def Tryz.lays156_ren : Go.Shelf.Ren := ⟨fun | 156 => 46 | 165 => 92 | 166 => 19 | 169 => 22 | 240 => 30 | 241 => 144 | 276 => 45 | 277 => 202 | n => n, fun | 31 => 101 | 9 => 9 | 3 => 3 | 4 => 4 | 0 => 0 | 20 => 20 | 72 => 55 | 76 => 58 | 70 => 53 | 37 => 24 | 75 => 57 | 127 => 89 | 164 => 99 | 5 => 5 | 80 => 61 | n => n, fun | n => n⟩
theorem Tryz.lays156 : Go.Proofs.Lays.n156 Tryz.prog Tryz.lays156_ren := {
  mixed := by kernel_rfl
  f156 := Tryz.func46.trans (congrArg some (by kernel_rfl))
  f165 := Tryz.func92.trans (congrArg some (by kernel_rfl))
  f166 := Tryz.func19.trans (congrArg some (by kernel_rfl))
  f169 := Tryz.func22.trans (congrArg some (by kernel_rfl))
  f240 := Tryz.func30.trans (congrArg some (by kernel_rfl))
  f241 := Tryz.func144.trans (congrArg some (by kernel_rfl))
  f276 := Tryz.func45.trans (congrArg some (by kernel_rfl))
  f277 := Tryz.func202.trans (congrArg some (by kernel_rfl))
  t0 := Tryz.underlying0
  a0 := Tryz.isAgg0
  z0 := Tryz.sizeOf0
  v0 := Tryz.zeroValue0
  t3 := Tryz.underlying3
  a3 := Tryz.isAgg3
  z3 := Tryz.sizeOf3
  v3 := Tryz.zeroValue3
  t4 := Tryz.underlying4
  a4 := Tryz.isAgg4
  z4 := Tryz.sizeOf4
  v4 := Tryz.zeroValue4
  t9 := Tryz.underlying9
  a9 := Tryz.isAgg9
  z9 := Tryz.sizeOf9
  v9 := Tryz.zeroValue9
  t20 := Tryz.underlying20
  a20 := Tryz.isAgg20
  z20 := Tryz.sizeOf20
  v20 := Tryz.zeroValue20
  t31 := Tryz.underlying101
  a31 := Tryz.isAgg101
  z31 := Tryz.sizeOf101
  v31 := Tryz.zeroValue101
  t37 := Tryz.underlying24
  a37 := Tryz.isAgg24
  z37 := Tryz.sizeOf24
  v37 := Tryz.zeroValue24
  t70 := Tryz.underlying53
  a70 := Tryz.isAgg53
  z70 := Tryz.sizeOf53
  v70 := Tryz.zeroValue53
  t72 := Tryz.underlying55
  a72 := Tryz.isAgg55
  z72 := Tryz.sizeOf55
  v72 := Tryz.zeroValue55
  t75 := Tryz.underlying57
  a75 := Tryz.isAgg57
  z75 := Tryz.sizeOf57
  v75 := Tryz.zeroValue57
  t76 := Tryz.underlying58
  a76 := Tryz.isAgg58
  z76 := Tryz.sizeOf58
  v76 := Tryz.zeroValue58
  t127 := Tryz.underlying89
  a127 := Tryz.isAgg89
  z127 := Tryz.sizeOf89
  v127 := Tryz.zeroValue89
  t164 := Tryz.underlying99
  a164 := Tryz.isAgg99
  z164 := Tryz.sizeOf99
  v164 := Tryz.zeroValue99 }
theorem Tryz.Builder_Extra_156 : Builder.Extra Tryz.prog Tryz.lays156_ren := {
  sizeBuilder := by kernel_rfl
  liesBuilder := by kernel_rfl
  t5 := Tryz.underlying5
  a5 := Tryz.isAgg5
  z5 := Tryz.sizeOf5
  v5 := Tryz.zeroValue5
  infoByte := by kernel_rfl
  cellsByte := by kernel_rfl
  sizeByte := by kernel_rfl
  neB5 := by decide }
def Tryz.lays219_ren : Go.Shelf.Ren := ⟨fun | 219 => 39 | 217 => 78 | 225 => 79 | 224 => 80 | 267 => 81 | 266 => 133 | 314 => 134 | n => n, fun | 9 => 9 | 3 => 3 | 4 => 4 | 5 => 5 | 46 => 64 | 146 => 209 | 51 => 208 | n => n, fun | 1 => 0 | n => n⟩
theorem Tryz.lays219 : Go.Proofs.Lays.n219 Tryz.prog Tryz.lays219_ren := {
  mixed := by kernel_rfl
  f217 := Tryz.func78.trans (congrArg some (by kernel_rfl))
  f219 := Tryz.func39.trans (congrArg some (by kernel_rfl))
  f224 := Tryz.func80.trans (congrArg some (by kernel_rfl))
  f225 := Tryz.func79.trans (congrArg some (by kernel_rfl))
  f266 := Tryz.func133.trans (congrArg some (by kernel_rfl))
  f267 := Tryz.func81.trans (congrArg some (by kernel_rfl))
  f314 := Tryz.func134.trans (congrArg some (by kernel_rfl))
  t3 := Tryz.underlying3
  a3 := Tryz.isAgg3
  z3 := Tryz.sizeOf3
  v3 := Tryz.zeroValue3
  t4 := Tryz.underlying4
  a4 := Tryz.isAgg4
  z4 := Tryz.sizeOf4
  v4 := Tryz.zeroValue4
  t5 := Tryz.underlying5
  a5 := Tryz.isAgg5
  z5 := Tryz.sizeOf5
  v5 := Tryz.zeroValue5
  t9 := Tryz.underlying9
  a9 := Tryz.isAgg9
  z9 := Tryz.sizeOf9
  v9 := Tryz.zeroValue9
  t46 := Tryz.underlying64
  a46 := Tryz.isAgg64
  z46 := Tryz.sizeOf64
  v46 := Tryz.zeroValue64
  t51 := Tryz.underlying208
  a51 := Tryz.isAgg208
  z51 := Tryz.sizeOf208
  v51 := Tryz.zeroValue208
  t146 := Tryz.underlying209
  a146 := Tryz.isAgg209
  z146 := Tryz.sizeOf209
  v146 := Tryz.zeroValue209
  g1 := by kernel_rfl }
def Tryz.laysGg6_ren : Go.Shelf.Ren := ⟨fun | 6 => 368 | 10 => 374 | 11 => 375 | 12 => 376 | 13 => 257 | 14 => 377 | 24 => 328 | 25 => 140 | 26 => 388 | 27 => 389 | 28 => 390 | 29 => 391 | 30 => 392 | 31 => 393 | 32 => 394 | 33 => 395 | 34 => 396 | 35 => 397 | 36 => 398 | 37 => 399 | 38 => 400 | 39 => 401 | n => n, fun | 20 => 20 | 26 => 106 | 35 => 481 | 0 => 0 | 37 => 483 | 3 => 3 | 41 => 64 | 44 => 487 | 49 => 208 | 51 => 92 | 4 => 4 | 54 => 496 | 53 => 495 | 58 => 43 | 5 => 5 | 9 => 9 | 60 => 501 | 64 => 386 | 66 => 504 | 67 => 135 | 17 => 17 | 32 => 99 | 33 => 479 | 82 => 517 | 12 => 12 | 75 => 511 | 76 => 512 | 77 => 513 | 78 => 89 | 79 => 514 | 80 => 515 | n => n, fun | n => n⟩
theorem Tryz.laysGg6 : Go.Proofs.LaysGg.n6 Tryz.prog Tryz.laysGg6_ren := {
  mixed := by kernel_rfl
  f6 := Tryz.func368.trans (congrArg some (by kernel_rfl))
  f10 := Tryz.func374.trans (congrArg some (by kernel_rfl))
  f11 := Tryz.func375.trans (congrArg some (by kernel_rfl))
  f12 := Tryz.func376.trans (congrArg some (by kernel_rfl))
  f13 := Tryz.func257.trans (congrArg some (by kernel_rfl))
  f14 := Tryz.func377.trans (congrArg some (by kernel_rfl))
  f24 := Tryz.func328.trans (congrArg some (by kernel_rfl))
  f25 := Tryz.func140.trans (congrArg some (by kernel_rfl))
  f26 := Tryz.func388.trans (congrArg some (by kernel_rfl))
  f27 := Tryz.func389.trans (congrArg some (by kernel_rfl))
  f28 := Tryz.func390.trans (congrArg some (by kernel_rfl))
  f29 := Tryz.func391.trans (congrArg some (by kernel_rfl))
  f30 := Tryz.func392.trans (congrArg some (by kernel_rfl))
  f31 := Tryz.func393.trans (congrArg some (by kernel_rfl))
  f32 := Tryz.func394.trans (congrArg some (by kernel_rfl))
  f33 := Tryz.func395.trans (congrArg some (by kernel_rfl))
  f34 := Tryz.func396.trans (congrArg some (by kernel_rfl))
  f35 := Tryz.func397.trans (congrArg some (by kernel_rfl))
  f36 := Tryz.func398.trans (congrArg some (by kernel_rfl))
  f37 := Tryz.func399.trans (congrArg some (by kernel_rfl))
  f38 := Tryz.func400.trans (congrArg some (by kernel_rfl))
  f39 := Tryz.func401.trans (congrArg some (by kernel_rfl))
  t0 := Tryz.underlying0
  a0 := Tryz.isAgg0
  z0 := Tryz.sizeOf0
  v0 := Tryz.zeroValue0
  i0 := by kernel_rfl
  t3 := Tryz.underlying3
  a3 := Tryz.isAgg3
  z3 := Tryz.sizeOf3
  v3 := Tryz.zeroValue3
  i3 := by kernel_rfl
  t4 := Tryz.underlying4
  a4 := Tryz.isAgg4
  z4 := Tryz.sizeOf4
  v4 := Tryz.zeroValue4
  i4 := by kernel_rfl
  t5 := Tryz.underlying5
  a5 := Tryz.isAgg5
  z5 := Tryz.sizeOf5
  v5 := Tryz.zeroValue5
  i5 := by kernel_rfl
  t9 := Tryz.underlying9
  a9 := Tryz.isAgg9
  z9 := Tryz.sizeOf9
  v9 := Tryz.zeroValue9
  i9 := by kernel_rfl
  t12 := Tryz.underlying12
  a12 := Tryz.isAgg12
  z12 := Tryz.sizeOf12
  v12 := Tryz.zeroValue12
  i12 := by kernel_rfl
  t17 := Tryz.underlying17
  a17 := Tryz.isAgg17
  z17 := Tryz.sizeOf17
  v17 := Tryz.zeroValue17
  i17 := by kernel_rfl
  t20 := Tryz.underlying20
  a20 := Tryz.isAgg20
  z20 := Tryz.sizeOf20
  v20 := Tryz.zeroValue20
  i20 := by kernel_rfl
  t26 := Tryz.underlying106
  a26 := Tryz.isAgg106
  z26 := Tryz.sizeOf106
  v26 := Tryz.zeroValue106
  i26 := by kernel_rfl
  t32 := Tryz.underlying99
  a32 := Tryz.isAgg99
  z32 := Tryz.sizeOf99
  v32 := Tryz.zeroValue99
  i32 := by kernel_rfl
  t33 := Tryz.underlying479
  a33 := Tryz.isAgg479
  z33 := Tryz.sizeOf479
  v33 := Tryz.zeroValue479
  i33 := by kernel_rfl
  t35 := Tryz.underlying481
  a35 := Tryz.isAgg481
  z35 := Tryz.sizeOf481
  v35 := Tryz.zeroValue481
  i35 := by kernel_rfl
  t37 := Tryz.underlying483
  a37 := Tryz.isAgg483
  z37 := Tryz.sizeOf483
  v37 := Tryz.zeroValue483
  i37 := by kernel_rfl
  t41 := Tryz.underlying64
  a41 := Tryz.isAgg64
  z41 := Tryz.sizeOf64
  v41 := Tryz.zeroValue64
  i41 := by kernel_rfl
  t44 := Tryz.underlying487
  a44 := Tryz.isAgg487
  z44 := Tryz.sizeOf487
  v44 := Tryz.zeroValue487
  i44 := by kernel_rfl
  t49 := Tryz.underlying208
  a49 := Tryz.isAgg208
  z49 := Tryz.sizeOf208
  v49 := Tryz.zeroValue208
  i49 := by kernel_rfl
  t51 := Tryz.underlying92
  a51 := Tryz.isAgg92
  z51 := Tryz.sizeOf92
  v51 := Tryz.zeroValue92
  i51 := by kernel_rfl
  t53 := Tryz.underlying495
  a53 := Tryz.isAgg495
  z53 := Tryz.sizeOf495
  v53 := Tryz.zeroValue495
  i53 := by kernel_rfl
  t54 := Tryz.underlying496
  a54 := Tryz.isAgg496
  z54 := Tryz.sizeOf496
  v54 := Tryz.zeroValue496
  i54 := by kernel_rfl
  t58 := Tryz.underlying43
  a58 := Tryz.isAgg43
  z58 := Tryz.sizeOf43
  v58 := Tryz.zeroValue43
  i58 := by kernel_rfl
  t60 := Tryz.underlying501
  a60 := Tryz.isAgg501
  z60 := Tryz.sizeOf501
  v60 := Tryz.zeroValue501
  i60 := by kernel_rfl
  t64 := Tryz.underlying386
  a64 := Tryz.isAgg386
  z64 := Tryz.sizeOf386
  v64 := Tryz.zeroValue386
  i64 := by kernel_rfl
  t66 := Tryz.underlying504
  a66 := Tryz.isAgg504
  z66 := Tryz.sizeOf504
  v66 := Tryz.zeroValue504
  i66 := by kernel_rfl
  t67 := Tryz.underlying135
  a67 := Tryz.isAgg135
  z67 := Tryz.sizeOf135
  v67 := Tryz.zeroValue135
  i67 := by kernel_rfl
  t75 := Tryz.underlying511
  a75 := Tryz.isAgg511
  z75 := Tryz.sizeOf511
  v75 := Tryz.zeroValue511
  i75 := by kernel_rfl
  t76 := Tryz.underlying512
  a76 := Tryz.isAgg512
  z76 := Tryz.sizeOf512
  v76 := Tryz.zeroValue512
  i76 := by kernel_rfl
  t77 := Tryz.underlying513
  a77 := Tryz.isAgg513
  z77 := Tryz.sizeOf513
  v77 := Tryz.zeroValue513
  i77 := by kernel_rfl
  t78 := Tryz.underlying89
  a78 := Tryz.isAgg89
  z78 := Tryz.sizeOf89
  v78 := Tryz.zeroValue89
  i78 := by kernel_rfl
  t79 := Tryz.underlying514
  a79 := Tryz.isAgg514
  z79 := Tryz.sizeOf514
  v79 := Tryz.zeroValue514
  i79 := by kernel_rfl
  t80 := Tryz.underlying515
  a80 := Tryz.isAgg515
  z80 := Tryz.sizeOf515
  v80 := Tryz.zeroValue515
  i80 := by kernel_rfl
  t82 := Tryz.underlying517
  a82 := Tryz.isAgg517
  z82 := Tryz.sizeOf517
  v82 := Tryz.zeroValue517
  i82 := by kernel_rfl }
def Tryz.laysSlB13_ren : Go.Shelf.Ren := ⟨fun | 13 => 106 | 24 => 174 | 25 => 175 | 12 => 176 | 31 => 240 | 19 => 241 | 20 => 242 | 21 => 243 | 22 => 80 | 23 => 244 | 29 => 312 | 30 => 313 | n => n, fun | 22 => 24 | 3 => 3 | 4 => 4 | 0 => 0 | 5 => 5 | 9 => 9 | 33 => 64 | 40 => 209 | 39 => 208 | n => n, fun | 0 => 0 | n => n⟩
theorem Tryz.laysSlB13 : Go.Proofs.SlLaysB.n13 Tryz.prog Tryz.laysSlB13_ren := {
  mixed := by kernel_rfl
  f13 := Tryz.func106.trans (congrArg some (by kernel_rfl))
  f25 := Tryz.func175.trans (congrArg some (by kernel_rfl))
  t0 := Tryz.underlying0
  a0 := Tryz.isAgg0
  z0 := Tryz.sizeOf0
  v0 := Tryz.zeroValue0
  t3 := Tryz.underlying3
  a3 := Tryz.isAgg3
  z3 := Tryz.sizeOf3
  v3 := Tryz.zeroValue3
  t4 := Tryz.underlying4
  a4 := Tryz.isAgg4
  z4 := Tryz.sizeOf4
  v4 := Tryz.zeroValue4
  t5 := Tryz.underlying5
  a5 := Tryz.isAgg5
  z5 := Tryz.sizeOf5
  v5 := Tryz.zeroValue5
  t22 := Tryz.underlying24
  a22 := Tryz.isAgg24
  z22 := Tryz.sizeOf24
  v22 := Tryz.zeroValue24 }
end Go.Proofs
