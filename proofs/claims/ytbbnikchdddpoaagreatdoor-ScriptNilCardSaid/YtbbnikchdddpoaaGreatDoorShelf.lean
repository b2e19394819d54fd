/-
  DERIVED: THE SHELF's CONTRACTS AT THIS DUMP, IN PLAIN WORDS (tools/lay-plain.mjs out of 'TryzShelf.lean', which tools/lay-shelf.mjs wrote): THE SAME DECLARATIONS UNDER THE SAME NAMES: 'import', 'namespace', 'open', 'def', 'theorem' AND NOTHING ELSE: no command of the shelf's: FOR A HAND-IN. Each laying: the table of numbers ('.._ren') and one theorem, a field a fact of the dump's own or the kernel's comparison; each contract: ONE APPLICATION.
-/
import Derived.Shelf.Strings.Builder1
import Derived.Shelf.Strings.Builder2
import Derived.Shelf.Strings.OnBuilder
import Derived.Shelf.Small.Bits
import Derived.Shelf.Strconv.Atoi
import Derived.Shelf.Strconv.Itoa0
import Derived.Shelf.Strconv.Itoa1
import Derived.Shelf.LaysM
import Derived.Shelf.Strconv.Itoa2
import Derived.Shelf.Strconv.Itoa3
import Derived.Shelf.Strconv.ParseIntEmpty
import Derived.Shelf.Strconv.Clone
import Derived.Shelf.Strconv.Lower
import Derived.Shelf.Strconv.ParseUint10Empty
import Derived.Shelf.Strings.Search1
import Derived.Shelf.Strings.Search2
import Derived.Shelf.Strings.Cut
import Derived.Shelf.Strings.Shaped
import Derived.Ground.GgsProg
import Derived.Shelf.GgSortFunc.Insertion
import Derived.Shelf.GgSortFunc.Small
import Derived.Shelf.GgSortFunc.InsertionK
import Derived.Shelf.GgSortFunc.SmallK
import Derived.Shelf.GgSortFunc.Tiny
import Derived.Ground.SlbNamesProg
import Derived.Shelf.Bytes.SlCountOne
import Derived.Test.YtbbnikchdddpoaaGreatDoorProg
namespace Go.Proofs
open Go.Shelf
def Tryz.lays156_ren : Go.Shelf.Ren := ⟨fun | 156 => 25 | 165 => 68 | 166 => 19 | 169 => 21 | 240 => 63 | 241 => 115 | 276 => 112 | 277 => 182 | n => n, fun | 31 => 66 | 9 => 9 | 3 => 3 | 4 => 4 | 0 => 0 | 20 => 20 | 72 => 54 | 76 => 59 | 70 => 52 | 37 => 33 | 75 => 58 | 127 => 112 | 164 => 186 | 5 => 5 | 80 => 62 | n => n, fun | n => n⟩
theorem Tryz.lays156 : Go.Proofs.Lays.n156 Tryz.prog Tryz.lays156_ren := {
  mixed := by kernel_rfl
  f156 := Tryz.func25.trans (congrArg some (by kernel_rfl))
  f165 := Tryz.func68.trans (congrArg some (by kernel_rfl))
  f166 := Tryz.func19.trans (congrArg some (by kernel_rfl))
  f169 := Tryz.func21.trans (congrArg some (by kernel_rfl))
  f240 := Tryz.func63.trans (congrArg some (by kernel_rfl))
  f241 := Tryz.func115.trans (congrArg some (by kernel_rfl))
  f276 := Tryz.func112.trans (congrArg some (by kernel_rfl))
  f277 := Tryz.func182.trans (congrArg some (by kernel_rfl))
  t0 := Tryz.underlying0
  a0 := Tryz.isAgg0
  z0 := Tryz.sizeOf0
  v0 := Tryz.zeroValue0
  t3 := Tryz.underlying3
  a3 := Tryz.isAgg3
  z3 := Tryz.sizeOf3
  v3 := Tryz.zeroValue3
  t4 := Tryz.underlying4
  a4 := Tryz.isAgg4
  z4 := Tryz.sizeOf4
  v4 := Tryz.zeroValue4
  t9 := Tryz.underlying9
  a9 := Tryz.isAgg9
  z9 := Tryz.sizeOf9
  v9 := Tryz.zeroValue9
  t20 := Tryz.underlying20
  a20 := Tryz.isAgg20
  z20 := Tryz.sizeOf20
  v20 := Tryz.zeroValue20
  t31 := Tryz.underlying66
  a31 := Tryz.isAgg66
  z31 := Tryz.sizeOf66
  v31 := Tryz.zeroValue66
  t37 := Tryz.underlying33
  a37 := Tryz.isAgg33
  z37 := Tryz.sizeOf33
  v37 := Tryz.zeroValue33
  t70 := Tryz.underlying52
  a70 := Tryz.isAgg52
  z70 := Tryz.sizeOf52
  v70 := Tryz.zeroValue52
  t72 := Tryz.underlying54
  a72 := Tryz.isAgg54
  z72 := Tryz.sizeOf54
  v72 := Tryz.zeroValue54
  t75 := Tryz.underlying58
  a75 := Tryz.isAgg58
  z75 := Tryz.sizeOf58
  v75 := Tryz.zeroValue58
  t76 := Tryz.underlying59
  a76 := Tryz.isAgg59
  z76 := Tryz.sizeOf59
  v76 := Tryz.zeroValue59
  t127 := Tryz.underlying112
  a127 := Tryz.isAgg112
  z127 := Tryz.sizeOf112
  v127 := Tryz.zeroValue112
  t164 := Tryz.underlying186
  a164 := Tryz.isAgg186
  z164 := Tryz.sizeOf186
  v164 := Tryz.zeroValue186 }
theorem Tryz.Builder_Extra_156 : Builder.Extra Tryz.prog Tryz.lays156_ren := {
  sizeBuilder := by kernel_rfl
  liesBuilder := by kernel_rfl
  t5 := Tryz.underlying5
  a5 := Tryz.isAgg5
  z5 := Tryz.sizeOf5
  v5 := Tryz.zeroValue5
  infoByte := by kernel_rfl
  cellsByte := by kernel_rfl
  sizeByte := by kernel_rfl
  neB5 := by decide }
def Tryz.lays219_ren : Go.Shelf.Ren := ⟨fun | 219 => 111 | 217 => 174 | 225 => 175 | 224 => 176 | 267 => 177 | 266 => 249 | 314 => 250 | n => n, fun | 9 => 9 | 3 => 3 | 4 => 4 | 5 => 5 | 46 => 181 | 146 => 350 | 51 => 195 | n => n, fun | 1 => 0 | n => n⟩
theorem Tryz.lays219 : Go.Proofs.Lays.n219 Tryz.prog Tryz.lays219_ren := {
  mixed := by kernel_rfl
  f217 := Tryz.func174.trans (congrArg some (by kernel_rfl))
  f219 := Tryz.func111.trans (congrArg some (by kernel_rfl))
  f224 := Tryz.func176.trans (congrArg some (by kernel_rfl))
  f225 := Tryz.func175.trans (congrArg some (by kernel_rfl))
  f266 := Tryz.func249.trans (congrArg some (by kernel_rfl))
  f267 := Tryz.func177.trans (congrArg some (by kernel_rfl))
  f314 := Tryz.func250.trans (congrArg some (by kernel_rfl))
  t3 := Tryz.underlying3
  a3 := Tryz.isAgg3
  z3 := Tryz.sizeOf3
  v3 := Tryz.zeroValue3
  t4 := Tryz.underlying4
  a4 := Tryz.isAgg4
  z4 := Tryz.sizeOf4
  v4 := Tryz.zeroValue4
  t5 := Tryz.underlying5
  a5 := Tryz.isAgg5
  z5 := Tryz.sizeOf5
  v5 := Tryz.zeroValue5
  t9 := Tryz.underlying9
  a9 := Tryz.isAgg9
  z9 := Tryz.sizeOf9
  v9 := Tryz.zeroValue9
  t46 := Tryz.underlying181
  a46 := Tryz.isAgg181
  z46 := Tryz.sizeOf181
  v46 := Tryz.zeroValue181
  t51 := Tryz.underlying195
  a51 := Tryz.isAgg195
  z51 := Tryz.sizeOf195
  v51 := Tryz.zeroValue195
  t146 := Tryz.underlying350
  a146 := Tryz.isAgg350
  z146 := Tryz.sizeOf350
  v146 := Tryz.zeroValue350
  g1 := by kernel_rfl }
def Tryz.laysGg6_ren : Go.Shelf.Ren := ⟨fun | 6 => 367 | 10 => 373 | 11 => 374 | 12 => 375 | 13 => 243 | 14 => 376 | 24 => 325 | 25 => 252 | 26 => 387 | 27 => 388 | 28 => 389 | 29 => 390 | 30 => 391 | 31 => 392 | 32 => 393 | 33 => 394 | 34 => 395 | 35 => 396 | 36 => 397 | 37 => 398 | 38 => 399 | 39 => 400 | n => n, fun | 20 => 20 | 26 => 79 | 35 => 479 | 0 => 0 | 37 => 481 | 3 => 3 | 41 => 181 | 44 => 485 | 49 => 195 | 51 => 190 | 4 => 4 | 54 => 494 | 53 => 493 | 58 => 71 | 5 => 5 | 9 => 9 | 60 => 499 | 64 => 378 | 66 => 502 | 67 => 110 | 17 => 17 | 32 => 186 | 33 => 477 | 82 => 515 | 12 => 12 | 75 => 509 | 76 => 510 | 77 => 511 | 78 => 112 | 79 => 512 | 80 => 513 | n => n, fun | n => n⟩
theorem Tryz.laysGg6 : Go.Proofs.LaysGg.n6 Tryz.prog Tryz.laysGg6_ren := {
  mixed := by kernel_rfl
  f6 := Tryz.func367.trans (congrArg some (by kernel_rfl))
  f10 := Tryz.func373.trans (congrArg some (by kernel_rfl))
  f11 := Tryz.func374.trans (congrArg some (by kernel_rfl))
  f12 := Tryz.func375.trans (congrArg some (by kernel_rfl))
  f13 := Tryz.func243.trans (congrArg some (by kernel_rfl))
  f14 := Tryz.func376.trans (congrArg some (by kernel_rfl))
  f24 := Tryz.func325.trans (congrArg some (by kernel_rfl))
  f25 := Tryz.func252.trans (congrArg some (by kernel_rfl))
  f26 := Tryz.func387.trans (congrArg some (by kernel_rfl))
  f27 := Tryz.func388.trans (congrArg some (by kernel_rfl))
  f28 := Tryz.func389.trans (congrArg some (by kernel_rfl))
  f29 := Tryz.func390.trans (congrArg some (by kernel_rfl))
  f30 := Tryz.func391.trans (congrArg some (by kernel_rfl))
  f31 := Tryz.func392.trans (congrArg some (by kernel_rfl))
  f32 := Tryz.func393.trans (congrArg some (by kernel_rfl))
  f33 := Tryz.func394.trans (congrArg some (by kernel_rfl))
  f34 := Tryz.func395.trans (congrArg some (by kernel_rfl))
  f35 := Tryz.func396.trans (congrArg some (by kernel_rfl))
  f36 := Tryz.func397.trans (congrArg some (by kernel_rfl))
  f37 := Tryz.func398.trans (congrArg some (by kernel_rfl))
  f38 := Tryz.func399.trans (congrArg some (by kernel_rfl))
  f39 := Tryz.func400.trans (congrArg some (by kernel_rfl))
  t0 := Tryz.underlying0
  a0 := Tryz.isAgg0
  z0 := Tryz.sizeOf0
  v0 := Tryz.zeroValue0
  i0 := by kernel_rfl
  t3 := Tryz.underlying3
  a3 := Tryz.isAgg3
  z3 := Tryz.sizeOf3
  v3 := Tryz.zeroValue3
  i3 := by kernel_rfl
  t4 := Tryz.underlying4
  a4 := Tryz.isAgg4
  z4 := Tryz.sizeOf4
  v4 := Tryz.zeroValue4
  i4 := by kernel_rfl
  t5 := Tryz.underlying5
  a5 := Tryz.isAgg5
  z5 := Tryz.sizeOf5
  v5 := Tryz.zeroValue5
  i5 := by kernel_rfl
  t9 := Tryz.underlying9
  a9 := Tryz.isAgg9
  z9 := Tryz.sizeOf9
  v9 := Tryz.zeroValue9
  i9 := by kernel_rfl
  t12 := Tryz.underlying12
  a12 := Tryz.isAgg12
  z12 := Tryz.sizeOf12
  v12 := Tryz.zeroValue12
  i12 := by kernel_rfl
  t17 := Tryz.underlying17
  a17 := Tryz.isAgg17
  z17 := Tryz.sizeOf17
  v17 := Tryz.zeroValue17
  i17 := by kernel_rfl
  t20 := Tryz.underlying20
  a20 := Tryz.isAgg20
  z20 := Tryz.sizeOf20
  v20 := Tryz.zeroValue20
  i20 := by kernel_rfl
  t26 := Tryz.underlying79
  a26 := Tryz.isAgg79
  z26 := Tryz.sizeOf79
  v26 := Tryz.zeroValue79
  i26 := by kernel_rfl
  t32 := Tryz.underlying186
  a32 := Tryz.isAgg186
  z32 := Tryz.sizeOf186
  v32 := Tryz.zeroValue186
  i32 := by kernel_rfl
  t33 := Tryz.underlying477
  a33 := Tryz.isAgg477
  z33 := Tryz.sizeOf477
  v33 := Tryz.zeroValue477
  i33 := by kernel_rfl
  t35 := Tryz.underlying479
  a35 := Tryz.isAgg479
  z35 := Tryz.sizeOf479
  v35 := Tryz.zeroValue479
  i35 := by kernel_rfl
  t37 := Tryz.underlying481
  a37 := Tryz.isAgg481
  z37 := Tryz.sizeOf481
  v37 := Tryz.zeroValue481
  i37 := by kernel_rfl
  t41 := Tryz.underlying181
  a41 := Tryz.isAgg181
  z41 := Tryz.sizeOf181
  v41 := Tryz.zeroValue181
  i41 := by kernel_rfl
  t44 := Tryz.underlying485
  a44 := Tryz.isAgg485
  z44 := Tryz.sizeOf485
  v44 := Tryz.zeroValue485
  i44 := by kernel_rfl
  t49 := Tryz.underlying195
  a49 := Tryz.isAgg195
  z49 := Tryz.sizeOf195
  v49 := Tryz.zeroValue195
  i49 := by kernel_rfl
  t51 := Tryz.underlying190
  a51 := Tryz.isAgg190
  z51 := Tryz.sizeOf190
  v51 := Tryz.zeroValue190
  i51 := by kernel_rfl
  t53 := Tryz.underlying493
  a53 := Tryz.isAgg493
  z53 := Tryz.sizeOf493
  v53 := Tryz.zeroValue493
  i53 := by kernel_rfl
  t54 := Tryz.underlying494
  a54 := Tryz.isAgg494
  z54 := Tryz.sizeOf494
  v54 := Tryz.zeroValue494
  i54 := by kernel_rfl
  t58 := Tryz.underlying71
  a58 := Tryz.isAgg71
  z58 := Tryz.sizeOf71
  v58 := Tryz.zeroValue71
  i58 := by kernel_rfl
  t60 := Tryz.underlying499
  a60 := Tryz.isAgg499
  z60 := Tryz.sizeOf499
  v60 := Tryz.zeroValue499
  i60 := by kernel_rfl
  t64 := Tryz.underlying378
  a64 := Tryz.isAgg378
  z64 := Tryz.sizeOf378
  v64 := Tryz.zeroValue378
  i64 := by kernel_rfl
  t66 := Tryz.underlying502
  a66 := Tryz.isAgg502
  z66 := Tryz.sizeOf502
  v66 := Tryz.zeroValue502
  i66 := by kernel_rfl
  t67 := Tryz.underlying110
  a67 := Tryz.isAgg110
  z67 := Tryz.sizeOf110
  v67 := Tryz.zeroValue110
  i67 := by kernel_rfl
  t75 := Tryz.underlying509
  a75 := Tryz.isAgg509
  z75 := Tryz.sizeOf509
  v75 := Tryz.zeroValue509
  i75 := by kernel_rfl
  t76 := Tryz.underlying510
  a76 := Tryz.isAgg510
  z76 := Tryz.sizeOf510
  v76 := Tryz.zeroValue510
  i76 := by kernel_rfl
  t77 := Tryz.underlying511
  a77 := Tryz.isAgg511
  z77 := Tryz.sizeOf511
  v77 := Tryz.zeroValue511
  i77 := by kernel_rfl
  t78 := Tryz.underlying112
  a78 := Tryz.isAgg112
  z78 := Tryz.sizeOf112
  v78 := Tryz.zeroValue112
  i78 := by kernel_rfl
  t79 := Tryz.underlying512
  a79 := Tryz.isAgg512
  z79 := Tryz.sizeOf512
  v79 := Tryz.zeroValue512
  i79 := by kernel_rfl
  t80 := Tryz.underlying513
  a80 := Tryz.isAgg513
  z80 := Tryz.sizeOf513
  v80 := Tryz.zeroValue513
  i80 := by kernel_rfl
  t82 := Tryz.underlying515
  a82 := Tryz.isAgg515
  z82 := Tryz.sizeOf515
  v82 := Tryz.zeroValue515
  i82 := by kernel_rfl }
def Tryz.laysSlB13_ren : Go.Shelf.Ren := ⟨fun | 13 => 84 | 24 => 148 | 25 => 149 | 12 => 150 | 31 => 226 | 19 => 227 | 20 => 228 | 21 => 229 | 22 => 176 | 23 => 230 | 29 => 309 | 30 => 310 | n => n, fun | 22 => 33 | 3 => 3 | 4 => 4 | 0 => 0 | 5 => 5 | 9 => 9 | 33 => 181 | 40 => 350 | 39 => 195 | n => n, fun | 0 => 0 | n => n⟩
theorem Tryz.laysSlB13 : Go.Proofs.SlLaysB.n13 Tryz.prog Tryz.laysSlB13_ren := {
  mixed := by kernel_rfl
  f13 := Tryz.func84.trans (congrArg some (by kernel_rfl))
  f25 := Tryz.func149.trans (congrArg some (by kernel_rfl))
  t0 := Tryz.underlying0
  a0 := Tryz.isAgg0
  z0 := Tryz.sizeOf0
  v0 := Tryz.zeroValue0
  t3 := Tryz.underlying3
  a3 := Tryz.isAgg3
  z3 := Tryz.sizeOf3
  v3 := Tryz.zeroValue3
  t4 := Tryz.underlying4
  a4 := Tryz.isAgg4
  z4 := Tryz.sizeOf4
  v4 := Tryz.zeroValue4
  t5 := Tryz.underlying5
  a5 := Tryz.isAgg5
  z5 := Tryz.sizeOf5
  v5 := Tryz.zeroValue5
  t22 := Tryz.underlying33
  a22 := Tryz.isAgg33
  z22 := Tryz.sizeOf33
  v22 := Tryz.zeroValue33 }
end Go.Proofs
