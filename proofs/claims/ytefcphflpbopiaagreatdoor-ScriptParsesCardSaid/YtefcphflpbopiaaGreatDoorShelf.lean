/-
  DERIVED: THE SHELF's CONTRACTS AT THIS DUMP, IN PLAIN WORDS (tools/lay-plain.mjs out of 'TryzShelf.lean', which tools/lay-shelf.mjs wrote): THE SAME DECLARATIONS UNDER THE SAME NAMES: 'import', 'namespace', 'open', 'def', 'theorem' AND NOTHING ELSE: no command of the shelf's: FOR A HAND-IN. Each laying: the table of numbers ('.._ren') and one theorem, a field a fact of the dump's own or the kernel's comparison; each contract: ONE APPLICATION.
-/
import Derived.Shelf.Strings.Builder1
import Derived.Shelf.Strings.Builder2
import Derived.Shelf.Strings.OnBuilder
import Derived.Shelf.Small.Bits
import Derived.Shelf.Strings.BuilderF
import Derived.Shelf.Strings.BuilderK
import Derived.Shelf.Utf8.RuneCount
import Derived.Shelf.Strconv.Atoi
import Derived.Shelf.Strconv.Itoa0
import Derived.Shelf.Strconv.Itoa1
import Derived.Shelf.LaysM
import Derived.Shelf.Strconv.Itoa2
import Derived.Shelf.Strconv.Itoa3
import Derived.Shelf.Strconv.AtoiErrFast
import Derived.Shelf.Strconv.ParseIntEmpty
import Derived.Shelf.Strconv.AtoiFail
import Derived.Shelf.Strconv.Clone
import Derived.Shelf.Strconv.SyntaxError
import Derived.Shelf.LaysC
import Derived.Shelf.Strconv.ToError
import Derived.Shelf.Strconv.Lower
import Derived.Shelf.Strconv.ParseUint10
import Derived.Shelf.Strconv.ParseUint10Empty
import Derived.Shelf.Strconv.ParseUint10Any
import Derived.Shelf.Strconv.ParseInt10
import Derived.Shelf.Strconv.AtoiLong
import Derived.Shelf.Strconv.AtoiInnerAll
import Derived.Shelf.Strconv.RangeError
import Derived.Shelf.Strconv.ToErrorRange
import Derived.Shelf.Strconv.AtoiAll
import Derived.Shelf.Strconv.ErrVarAll
import Derived.Shelf.Strings.Search1
import Derived.Shelf.Strings.Search2
import Derived.Shelf.Strings.Cut
import Derived.Shelf.Strings.Shaped
import Derived.Ground.GgsProg
import Derived.Shelf.GgSortFunc.Insertion
import Derived.Shelf.GgSortFunc.Small
import Derived.Shelf.GgSortFunc.InsertionK
import Derived.Shelf.GgSortFunc.SmallK
import Derived.Shelf.GgSortFunc.Tiny
import Derived.Shelf.Strings.RuneCount
import Derived.Ground.Names2Prog
import Derived.Shelf.Slices.SearchI
import Derived.Ground.SlbNamesProg
import Derived.Shelf.Bytes.SlCountOne
import Derived.Test.YtefcphflpbopiaaGreatDoorProg
namespace Go.Proofs
open Go.Shelf
def Tryz.lays156_ren : Go.Shelf.Ren := ⟨fun | 156 => 55 | 165 => 98 | 166 => 25 | 169 => 28 | 240 => 39 | 241 => 149 | 276 => 54 | 277 => 210 | n => n, fun | 31 => 70 | 9 => 9 | 3 => 3 | 4 => 4 | 0 => 0 | 20 => 20 | 72 => 59 | 76 => 62 | 70 => 57 | 37 => 24 | 75 => 61 | 127 => 96 | 164 => 106 | 5 => 5 | 80 => 65 | n => n, fun | n => n⟩
theorem Tryz.lays156 : Go.Proofs.Lays.n156 Tryz.prog Tryz.lays156_ren := {
  mixed := by kernel_rfl
  f156 := Tryz.func55.trans (congrArg some (by kernel_rfl))
  f165 := Tryz.func98.trans (congrArg some (by kernel_rfl))
  f166 := Tryz.func25.trans (congrArg some (by kernel_rfl))
  f169 := Tryz.func28.trans (congrArg some (by kernel_rfl))
  f240 := Tryz.func39.trans (congrArg some (by kernel_rfl))
  f241 := Tryz.func149.trans (congrArg some (by kernel_rfl))
  f276 := Tryz.func54.trans (congrArg some (by kernel_rfl))
  f277 := Tryz.func210.trans (congrArg some (by kernel_rfl))
  t0 := Tryz.underlying0
  a0 := Tryz.isAgg0
  z0 := Tryz.sizeOf0
  v0 := Tryz.zeroValue0
  t3 := Tryz.underlying3
  a3 := Tryz.isAgg3
  z3 := Tryz.sizeOf3
  v3 := Tryz.zeroValue3
  t4 := Tryz.underlying4
  a4 := Tryz.isAgg4
  z4 := Tryz.sizeOf4
  v4 := Tryz.zeroValue4
  t9 := Tryz.underlying9
  a9 := Tryz.isAgg9
  z9 := Tryz.sizeOf9
  v9 := Tryz.zeroValue9
  t20 := Tryz.underlying20
  a20 := Tryz.isAgg20
  z20 := Tryz.sizeOf20
  v20 := Tryz.zeroValue20
  t31 := Tryz.underlying70
  a31 := Tryz.isAgg70
  z31 := Tryz.sizeOf70
  v31 := Tryz.zeroValue70
  t37 := Tryz.underlying24
  a37 := Tryz.isAgg24
  z37 := Tryz.sizeOf24
  v37 := Tryz.zeroValue24
  t70 := Tryz.underlying57
  a70 := Tryz.isAgg57
  z70 := Tryz.sizeOf57
  v70 := Tryz.zeroValue57
  t72 := Tryz.underlying59
  a72 := Tryz.isAgg59
  z72 := Tryz.sizeOf59
  v72 := Tryz.zeroValue59
  t75 := Tryz.underlying61
  a75 := Tryz.isAgg61
  z75 := Tryz.sizeOf61
  v75 := Tryz.zeroValue61
  t76 := Tryz.underlying62
  a76 := Tryz.isAgg62
  z76 := Tryz.sizeOf62
  v76 := Tryz.zeroValue62
  t127 := Tryz.underlying96
  a127 := Tryz.isAgg96
  z127 := Tryz.sizeOf96
  v127 := Tryz.zeroValue96
  t164 := Tryz.underlying106
  a164 := Tryz.isAgg106
  z164 := Tryz.sizeOf106
  v164 := Tryz.zeroValue106 }
theorem Tryz.Builder_Extra_156 : Builder.Extra Tryz.prog Tryz.lays156_ren := {
  sizeBuilder := by kernel_rfl
  liesBuilder := by kernel_rfl
  t5 := Tryz.underlying5
  a5 := Tryz.isAgg5
  z5 := Tryz.sizeOf5
  v5 := Tryz.zeroValue5
  infoByte := by kernel_rfl
  cellsByte := by kernel_rfl
  sizeByte := by kernel_rfl
  neB5 := by decide }
def Tryz.lays219_ren : Go.Shelf.Ren := ⟨fun | 219 => 48 | 217 => 87 | 225 => 88 | 224 => 89 | 267 => 90 | 266 => 139 | 314 => 140 | n => n, fun | 9 => 9 | 3 => 3 | 4 => 4 | 5 => 5 | 46 => 102 | 146 => 211 | 51 => 210 | n => n, fun | 1 => 0 | n => n⟩
theorem Tryz.lays219 : Go.Proofs.Lays.n219 Tryz.prog Tryz.lays219_ren := {
  mixed := by kernel_rfl
  f217 := Tryz.func87.trans (congrArg some (by kernel_rfl))
  f219 := Tryz.func48.trans (congrArg some (by kernel_rfl))
  f224 := Tryz.func89.trans (congrArg some (by kernel_rfl))
  f225 := Tryz.func88.trans (congrArg some (by kernel_rfl))
  f266 := Tryz.func139.trans (congrArg some (by kernel_rfl))
  f267 := Tryz.func90.trans (congrArg some (by kernel_rfl))
  f314 := Tryz.func140.trans (congrArg some (by kernel_rfl))
  t3 := Tryz.underlying3
  a3 := Tryz.isAgg3
  z3 := Tryz.sizeOf3
  v3 := Tryz.zeroValue3
  t4 := Tryz.underlying4
  a4 := Tryz.isAgg4
  z4 := Tryz.sizeOf4
  v4 := Tryz.zeroValue4
  t5 := Tryz.underlying5
  a5 := Tryz.isAgg5
  z5 := Tryz.sizeOf5
  v5 := Tryz.zeroValue5
  t9 := Tryz.underlying9
  a9 := Tryz.isAgg9
  z9 := Tryz.sizeOf9
  v9 := Tryz.zeroValue9
  t46 := Tryz.underlying102
  a46 := Tryz.isAgg102
  z46 := Tryz.sizeOf102
  v46 := Tryz.zeroValue102
  t51 := Tryz.underlying210
  a51 := Tryz.isAgg210
  z51 := Tryz.sizeOf210
  v51 := Tryz.zeroValue210
  t146 := Tryz.underlying211
  a146 := Tryz.isAgg211
  z146 := Tryz.sizeOf211
  v146 := Tryz.zeroValue211
  g1 := by kernel_rfl }
def Tryz.laysGg6_ren : Go.Shelf.Ren := ⟨fun | 6 => 378 | 10 => 384 | 11 => 385 | 12 => 386 | 13 => 265 | 14 => 387 | 24 => 338 | 25 => 206 | 26 => 398 | 27 => 399 | 28 => 400 | 29 => 401 | 30 => 402 | 31 => 403 | 32 => 404 | 33 => 405 | 34 => 406 | 35 => 407 | 36 => 408 | 37 => 409 | 38 => 410 | 39 => 411 | n => n, fun | 20 => 20 | 26 => 112 | 35 => 487 | 0 => 0 | 37 => 489 | 3 => 3 | 41 => 102 | 44 => 493 | 49 => 210 | 51 => 99 | 4 => 4 | 54 => 502 | 53 => 501 | 58 => 43 | 5 => 5 | 9 => 9 | 60 => 507 | 64 => 390 | 66 => 510 | 67 => 141 | 17 => 17 | 32 => 106 | 33 => 485 | 82 => 523 | 12 => 12 | 75 => 517 | 76 => 518 | 77 => 519 | 78 => 96 | 79 => 520 | 80 => 521 | n => n, fun | n => n⟩
theorem Tryz.laysGg6 : Go.Proofs.LaysGg.n6 Tryz.prog Tryz.laysGg6_ren := {
  mixed := by kernel_rfl
  f6 := Tryz.func378.trans (congrArg some (by kernel_rfl))
  f10 := Tryz.func384.trans (congrArg some (by kernel_rfl))
  f11 := Tryz.func385.trans (congrArg some (by kernel_rfl))
  f12 := Tryz.func386.trans (congrArg some (by kernel_rfl))
  f13 := Tryz.func265.trans (congrArg some (by kernel_rfl))
  f14 := Tryz.func387.trans (congrArg some (by kernel_rfl))
  f24 := Tryz.func338.trans (congrArg some (by kernel_rfl))
  f25 := Tryz.func206.trans (congrArg some (by kernel_rfl))
  f26 := Tryz.func398.trans (congrArg some (by kernel_rfl))
  f27 := Tryz.func399.trans (congrArg some (by kernel_rfl))
  f28 := Tryz.func400.trans (congrArg some (by kernel_rfl))
  f29 := Tryz.func401.trans (congrArg some (by kernel_rfl))
  f30 := Tryz.func402.trans (congrArg some (by kernel_rfl))
  f31 := Tryz.func403.trans (congrArg some (by kernel_rfl))
  f32 := Tryz.func404.trans (congrArg some (by kernel_rfl))
  f33 := Tryz.func405.trans (congrArg some (by kernel_rfl))
  f34 := Tryz.func406.trans (congrArg some (by kernel_rfl))
  f35 := Tryz.func407.trans (congrArg some (by kernel_rfl))
  f36 := Tryz.func408.trans (congrArg some (by kernel_rfl))
  f37 := Tryz.func409.trans (congrArg some (by kernel_rfl))
  f38 := Tryz.func410.trans (congrArg some (by kernel_rfl))
  f39 := Tryz.func411.trans (congrArg some (by kernel_rfl))
  t0 := Tryz.underlying0
  a0 := Tryz.isAgg0
  z0 := Tryz.sizeOf0
  v0 := Tryz.zeroValue0
  i0 := by kernel_rfl
  t3 := Tryz.underlying3
  a3 := Tryz.isAgg3
  z3 := Tryz.sizeOf3
  v3 := Tryz.zeroValue3
  i3 := by kernel_rfl
  t4 := Tryz.underlying4
  a4 := Tryz.isAgg4
  z4 := Tryz.sizeOf4
  v4 := Tryz.zeroValue4
  i4 := by kernel_rfl
  t5 := Tryz.underlying5
  a5 := Tryz.isAgg5
  z5 := Tryz.sizeOf5
  v5 := Tryz.zeroValue5
  i5 := by kernel_rfl
  t9 := Tryz.underlying9
  a9 := Tryz.isAgg9
  z9 := Tryz.sizeOf9
  v9 := Tryz.zeroValue9
  i9 := by kernel_rfl
  t12 := Tryz.underlying12
  a12 := Tryz.isAgg12
  z12 := Tryz.sizeOf12
  v12 := Tryz.zeroValue12
  i12 := by kernel_rfl
  t17 := Tryz.underlying17
  a17 := Tryz.isAgg17
  z17 := Tryz.sizeOf17
  v17 := Tryz.zeroValue17
  i17 := by kernel_rfl
  t20 := Tryz.underlying20
  a20 := Tryz.isAgg20
  z20 := Tryz.sizeOf20
  v20 := Tryz.zeroValue20
  i20 := by kernel_rfl
  t26 := Tryz.underlying112
  a26 := Tryz.isAgg112
  z26 := Tryz.sizeOf112
  v26 := Tryz.zeroValue112
  i26 := by kernel_rfl
  t32 := Tryz.underlying106
  a32 := Tryz.isAgg106
  z32 := Tryz.sizeOf106
  v32 := Tryz.zeroValue106
  i32 := by kernel_rfl
  t33 := Tryz.underlying485
  a33 := Tryz.isAgg485
  z33 := Tryz.sizeOf485
  v33 := Tryz.zeroValue485
  i33 := by kernel_rfl
  t35 := Tryz.underlying487
  a35 := Tryz.isAgg487
  z35 := Tryz.sizeOf487
  v35 := Tryz.zeroValue487
  i35 := by kernel_rfl
  t37 := Tryz.underlying489
  a37 := Tryz.isAgg489
  z37 := Tryz.sizeOf489
  v37 := Tryz.zeroValue489
  i37 := by kernel_rfl
  t41 := Tryz.underlying102
  a41 := Tryz.isAgg102
  z41 := Tryz.sizeOf102
  v41 := Tryz.zeroValue102
  i41 := by kernel_rfl
  t44 := Tryz.underlying493
  a44 := Tryz.isAgg493
  z44 := Tryz.sizeOf493
  v44 := Tryz.zeroValue493
  i44 := by kernel_rfl
  t49 := Tryz.underlying210
  a49 := Tryz.isAgg210
  z49 := Tryz.sizeOf210
  v49 := Tryz.zeroValue210
  i49 := by kernel_rfl
  t51 := Tryz.underlying99
  a51 := Tryz.isAgg99
  z51 := Tryz.sizeOf99
  v51 := Tryz.zeroValue99
  i51 := by kernel_rfl
  t53 := Tryz.underlying501
  a53 := Tryz.isAgg501
  z53 := Tryz.sizeOf501
  v53 := Tryz.zeroValue501
  i53 := by kernel_rfl
  t54 := Tryz.underlying502
  a54 := Tryz.isAgg502
  z54 := Tryz.sizeOf502
  v54 := Tryz.zeroValue502
  i54 := by kernel_rfl
  t58 := Tryz.underlying43
  a58 := Tryz.isAgg43
  z58 := Tryz.sizeOf43
  v58 := Tryz.zeroValue43
  i58 := by kernel_rfl
  t60 := Tryz.underlying507
  a60 := Tryz.isAgg507
  z60 := Tryz.sizeOf507
  v60 := Tryz.zeroValue507
  i60 := by kernel_rfl
  t64 := Tryz.underlying390
  a64 := Tryz.isAgg390
  z64 := Tryz.sizeOf390
  v64 := Tryz.zeroValue390
  i64 := by kernel_rfl
  t66 := Tryz.underlying510
  a66 := Tryz.isAgg510
  z66 := Tryz.sizeOf510
  v66 := Tryz.zeroValue510
  i66 := by kernel_rfl
  t67 := Tryz.underlying141
  a67 := Tryz.isAgg141
  z67 := Tryz.sizeOf141
  v67 := Tryz.zeroValue141
  i67 := by kernel_rfl
  t75 := Tryz.underlying517
  a75 := Tryz.isAgg517
  z75 := Tryz.sizeOf517
  v75 := Tryz.zeroValue517
  i75 := by kernel_rfl
  t76 := Tryz.underlying518
  a76 := Tryz.isAgg518
  z76 := Tryz.sizeOf518
  v76 := Tryz.zeroValue518
  i76 := by kernel_rfl
  t77 := Tryz.underlying519
  a77 := Tryz.isAgg519
  z77 := Tryz.sizeOf519
  v77 := Tryz.zeroValue519
  i77 := by kernel_rfl
  t78 := Tryz.underlying96
  a78 := Tryz.isAgg96
  z78 := Tryz.sizeOf96
  v78 := Tryz.zeroValue96
  i78 := by kernel_rfl
  t79 := Tryz.underlying520
  a79 := Tryz.isAgg520
  z79 := Tryz.sizeOf520
  v79 := Tryz.zeroValue520
  i79 := by kernel_rfl
  t80 := Tryz.underlying521
  a80 := Tryz.isAgg521
  z80 := Tryz.sizeOf521
  v80 := Tryz.zeroValue521
  i80 := by kernel_rfl
  t82 := Tryz.underlying523
  a82 := Tryz.isAgg523
  z82 := Tryz.sizeOf523
  v82 := Tryz.zeroValue523
  i82 := by kernel_rfl }
def Tryz.laysSlB13_ren : Go.Shelf.Ren := ⟨fun | 13 => 112 | 24 => 179 | 25 => 180 | 12 => 181 | 31 => 248 | 19 => 249 | 20 => 250 | 21 => 251 | 22 => 89 | 23 => 252 | 29 => 322 | 30 => 323 | n => n, fun | 22 => 24 | 3 => 3 | 4 => 4 | 0 => 0 | 5 => 5 | 9 => 9 | 33 => 102 | 40 => 211 | 39 => 210 | n => n, fun | 0 => 0 | n => n⟩
theorem Tryz.laysSlB13 : Go.Proofs.SlLaysB.n13 Tryz.prog Tryz.laysSlB13_ren := {
  mixed := by kernel_rfl
  f13 := Tryz.func112.trans (congrArg some (by kernel_rfl))
  f25 := Tryz.func180.trans (congrArg some (by kernel_rfl))
  t0 := Tryz.underlying0
  a0 := Tryz.isAgg0
  z0 := Tryz.sizeOf0
  v0 := Tryz.zeroValue0
  t3 := Tryz.underlying3
  a3 := Tryz.isAgg3
  z3 := Tryz.sizeOf3
  v3 := Tryz.zeroValue3
  t4 := Tryz.underlying4
  a4 := Tryz.isAgg4
  z4 := Tryz.sizeOf4
  v4 := Tryz.zeroValue4
  t5 := Tryz.underlying5
  a5 := Tryz.isAgg5
  z5 := Tryz.sizeOf5
  v5 := Tryz.zeroValue5
  t22 := Tryz.underlying24
  a22 := Tryz.isAgg24
  z22 := Tryz.sizeOf24
  v22 := Tryz.zeroValue24 }
end Go.Proofs
