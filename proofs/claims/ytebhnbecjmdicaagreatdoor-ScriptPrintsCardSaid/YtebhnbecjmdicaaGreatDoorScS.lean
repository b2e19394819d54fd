/-
  DERIVED: THE SHELF's CONTRACTS AT THIS DUMP, IN PLAIN WORDS (tools/lay-plain.mjs out of 'TryzShelf.lean', which tools/lay-shelf.mjs wrote): THE SAME DECLARATIONS UNDER THE SAME NAMES: 'import', 'namespace', 'open', 'def', 'theorem' AND NOTHING ELSE: no command of the shelf's: FOR A HAND-IN. Each laying: the table of numbers ('.._ren') and one theorem, a field a fact of the dump's own or the kernel's comparison; each contract: ONE APPLICATION.
-/
import Derived.Shelf.Strings.Builder1
import Derived.Shelf.Strings.Builder2
import Derived.Shelf.Strings.OnBuilder
import Derived.Shelf.Small.Bits
import Derived.Shelf.Small.Wraps
import Derived.Shelf.Strings.BuilderF
import Derived.Shelf.Strings.BuilderK
import Derived.Shelf.Utf8.RuneCount
import Derived.Shelf.Strings.Builder2Cap
import Derived.Shelf.Strconv.Atoi
import Derived.Shelf.Strconv.Itoa0
import Derived.Shelf.Strconv.Itoa1
import Derived.Shelf.LaysM
import Derived.Shelf.Strconv.Itoa2
import Derived.Shelf.Strconv.Itoa3
import Derived.Shelf.Strconv.AtoiErrFast
import Derived.Shelf.Strconv.ParseIntEmpty
import Derived.Shelf.Strconv.AtoiFail
import Derived.Shelf.Strconv.Clone
import Derived.Shelf.Strconv.SyntaxError
import Derived.Shelf.LaysC
import Derived.Shelf.Strconv.ToError
import Derived.Shelf.Strconv.Lower
import Derived.Shelf.Strconv.ParseUint10
import Derived.Shelf.Strconv.ParseUint10Empty
import Derived.Shelf.Strconv.ParseUint10Any
import Derived.Shelf.Strconv.ParseInt10
import Derived.Shelf.Strconv.AtoiLong
import Derived.Shelf.Strconv.AtoiInnerAll
import Derived.Shelf.Strconv.RangeError
import Derived.Shelf.Strconv.ToErrorRange
import Derived.Shelf.Strconv.AtoiAll
import Derived.Shelf.Strconv.ErrVarAll
import Derived.Shelf.Strconv.ParseUintEmpty
import Derived.Shelf.Strconv.ParseUint10b16
import Derived.Shelf.Strings.Search1
import Derived.Shelf.Strings.Search2
import Derived.Shelf.Strings.Cut
import Derived.Shelf.Strings.Shaped
import Derived.Shelf.Sort.Plain
import Derived.Ground.GgsProg
import Derived.Shelf.GgSortFunc.Insertion
import Derived.Shelf.GgSortFunc.Small
import Derived.Shelf.GgSortFunc.InsertionK
import Derived.Shelf.GgSortFunc.SmallK
import Derived.Shelf.GgSortFunc.Tiny
import Derived.Shelf.Strings.RuneCount
import Derived.Ground.Names2Prog
import Derived.Shelf.Slices.SearchI
import Derived.Shelf.Slices.In.SortNone
import Derived.Shelf.Slices.In.SortNone2
import Derived.Shelf.Bytes.SlIndexSmall
import Derived.Ground.SlbNamesProg
import Derived.Shelf.Bytes.SlCountOne
import Derived.Shelf.Bytes.SlSearch1
import Derived.Shelf.Bytes.Small
import Derived.Shelf.Bytes.IndexByte
import Derived.Test.YtebhnbecjmdicaaGreatDoorProg
namespace Go.Proofs
open Go.Shelf
def Tryz.laysM171_ren : Go.Shelf.Ren := ⟨fun | 171 => 16 | 243 => 34 | 246 => 50 | 283 => 89 | 284 => 90 | 285 => 91 | 286 => 92 | 129 => 145 | 317 => 144 | 318 => 146 | 319 => 147 | 320 => 148 | 337 => 211 | 338 => 212 | n => n, fun | 3 => 3 | 9 => 9 | 2 => 2 | 4 => 4 | 171 => 145 | 0 => 0 | 53 => 102 | 37 => 23 | 5 => 5 | 173 => 148 | 212 => 217 | 51 => 218 | 20 => 20 | 213 => 219 | 46 => 69 | 232 => 372 | 233 => 373 | n => n, fun | 17 => 1 | 18 => 4 | 19 => 5 | n => n⟩
theorem Tryz.laysM171 : Go.Proofs.LaysM.n171 Tryz.prog Tryz.laysM171_ren := {
  mixed := by kernel_rfl
  f129 := Tryz.func145.trans (congrArg some (by kernel_rfl))
  f171 := Tryz.func16.trans (congrArg some (by kernel_rfl))
  f243 := Tryz.func34.trans (congrArg some (by kernel_rfl))
  f246 := Tryz.func50.trans (congrArg some (by kernel_rfl))
  f283 := Tryz.func89.trans (congrArg some (by kernel_rfl))
  f284 := Tryz.func90.trans (congrArg some (by kernel_rfl))
  f285 := Tryz.func91.trans (congrArg some (by kernel_rfl))
  f286 := Tryz.func92.trans (congrArg some (by kernel_rfl))
  f317 := Tryz.func144.trans (congrArg some (by kernel_rfl))
  f318 := Tryz.func146.trans (congrArg some (by kernel_rfl))
  f319 := Tryz.func147.trans (congrArg some (by kernel_rfl))
  f320 := Tryz.func148.trans (congrArg some (by kernel_rfl))
  f337 := Tryz.func211.trans (congrArg some (by kernel_rfl))
  f338 := Tryz.func212.trans (congrArg some (by kernel_rfl))
  t0 := Tryz.underlying0
  a0 := Tryz.isAgg0
  z0 := Tryz.sizeOf0
  v0 := Tryz.zeroValue0
  t2 := Tryz.underlying2
  a2 := Tryz.isAgg2
  z2 := Tryz.sizeOf2
  v2 := Tryz.zeroValue2
  t3 := Tryz.underlying3
  a3 := Tryz.isAgg3
  z3 := Tryz.sizeOf3
  v3 := Tryz.zeroValue3
  t4 := Tryz.underlying4
  a4 := Tryz.isAgg4
  z4 := Tryz.sizeOf4
  v4 := Tryz.zeroValue4
  t5 := Tryz.underlying5
  a5 := Tryz.isAgg5
  z5 := Tryz.sizeOf5
  v5 := Tryz.zeroValue5
  t9 := Tryz.underlying9
  a9 := Tryz.isAgg9
  z9 := Tryz.sizeOf9
  v9 := Tryz.zeroValue9
  t20 := Tryz.underlying20
  a20 := Tryz.isAgg20
  z20 := Tryz.sizeOf20
  v20 := Tryz.zeroValue20
  t37 := Tryz.underlying23
  a37 := Tryz.isAgg23
  z37 := Tryz.sizeOf23
  v37 := Tryz.zeroValue23
  t46 := Tryz.underlying69
  a46 := Tryz.isAgg69
  z46 := Tryz.sizeOf69
  v46 := Tryz.zeroValue69
  t51 := Tryz.underlying218
  a51 := Tryz.isAgg218
  z51 := Tryz.sizeOf218
  v51 := Tryz.zeroValue218
  t53 := Tryz.underlying102
  a53 := Tryz.isAgg102
  z53 := Tryz.sizeOf102
  v53 := Tryz.zeroValue102
  t171 := Tryz.underlying145
  a171 := Tryz.isAgg145
  z171 := Tryz.sizeOf145
  v171 := Tryz.zeroValue145
  t173 := Tryz.underlying148
  a173 := Tryz.isAgg148
  z173 := Tryz.sizeOf148
  v173 := Tryz.zeroValue148
  t212 := Tryz.underlying217
  a212 := Tryz.isAgg217
  z212 := Tryz.sizeOf217
  v212 := Tryz.zeroValue217
  t213 := Tryz.underlying219
  a213 := Tryz.isAgg219
  z213 := Tryz.sizeOf219
  t232 := Tryz.underlying372
  a232 := Tryz.isAgg372
  z232 := Tryz.sizeOf372
  v232 := Tryz.zeroValue372
  t233 := Tryz.underlying373
  a233 := Tryz.isAgg373
  z233 := Tryz.sizeOf373
  v233 := Tryz.zeroValue373
  g17 := by kernel_rfl
  g18 := by kernel_rfl
  g19 := by kernel_rfl
  i0 := by kernel_rfl
  i2 := by kernel_rfl
  i3 := by kernel_rfl
  i4 := by kernel_rfl
  i5 := by kernel_rfl
  i9 := by kernel_rfl
  i20 := by kernel_rfl
  i37 := by kernel_rfl
  i46 := by kernel_rfl
  i51 := by kernel_rfl
  i53 := by kernel_rfl
  i171 := by kernel_rfl
  i173 := by kernel_rfl
  i212 := by kernel_rfl
  i232 := by kernel_rfl
  i233 := by kernel_rfl
  m17 := by kernel_rfl
  m18 := by kernel_rfl
  m19 := by kernel_rfl }
def Tryz.laysC245_ren : Go.Shelf.Ren := ⟨fun | 245 => 53 | 279 => 98 | 280 => 99 | 281 => 100 | 282 => 101 | 316 => 151 | 171 => 16 | 205 => 152 | 243 => 34 | 246 => 50 | 283 => 89 | 284 => 90 | 285 => 91 | 286 => 92 | 129 => 145 | 317 => 144 | 318 => 146 | 319 => 147 | 320 => 148 | 337 => 211 | 338 => 212 | n => n, fun | 9 => 9 | 3 => 3 | 75 => 64 | 167 => 152 | 4 => 4 | 168 => 155 | 210 => 224 | 37 => 23 | 0 => 0 | 127 => 98 | 145 => 308 | 143 => 306 | 2 => 2 | 171 => 145 | 53 => 102 | 5 => 5 | 173 => 148 | 212 => 217 | 51 => 218 | 20 => 20 | 213 => 219 | 46 => 69 | 232 => 372 | 233 => 373 | 80 => 68 | n => n, fun | 15 => 2 | 16 => 3 | 17 => 1 | 18 => 4 | 19 => 5 | n => n⟩
theorem Tryz.laysC245 : Go.Proofs.LaysC.n245 Tryz.prog Tryz.laysC245_ren := {
  mixed := by kernel_rfl
  f129 := Tryz.func145.trans (congrArg some (by kernel_rfl))
  f171 := Tryz.func16.trans (congrArg some (by kernel_rfl))
  f205 := Tryz.func152.trans (congrArg some (by kernel_rfl))
  f243 := Tryz.func34.trans (congrArg some (by kernel_rfl))
  f245 := Tryz.func53.trans (congrArg some (by kernel_rfl))
  f246 := Tryz.func50.trans (congrArg some (by kernel_rfl))
  f279 := Tryz.func98.trans (congrArg some (by kernel_rfl))
  f280 := Tryz.func99.trans (congrArg some (by kernel_rfl))
  f281 := Tryz.func100.trans (congrArg some (by kernel_rfl))
  f282 := Tryz.func101.trans (congrArg some (by kernel_rfl))
  f283 := Tryz.func89.trans (congrArg some (by kernel_rfl))
  f284 := Tryz.func90.trans (congrArg some (by kernel_rfl))
  f285 := Tryz.func91.trans (congrArg some (by kernel_rfl))
  f286 := Tryz.func92.trans (congrArg some (by kernel_rfl))
  f316 := Tryz.func151.trans (congrArg some (by kernel_rfl))
  f317 := Tryz.func144.trans (congrArg some (by kernel_rfl))
  f318 := Tryz.func146.trans (congrArg some (by kernel_rfl))
  f319 := Tryz.func147.trans (congrArg some (by kernel_rfl))
  f320 := Tryz.func148.trans (congrArg some (by kernel_rfl))
  f337 := Tryz.func211.trans (congrArg some (by kernel_rfl))
  f338 := Tryz.func212.trans (congrArg some (by kernel_rfl))
  t0 := Tryz.underlying0
  a0 := Tryz.isAgg0
  z0 := Tryz.sizeOf0
  v0 := Tryz.zeroValue0
  t2 := Tryz.underlying2
  a2 := Tryz.isAgg2
  z2 := Tryz.sizeOf2
  v2 := Tryz.zeroValue2
  t3 := Tryz.underlying3
  a3 := Tryz.isAgg3
  z3 := Tryz.sizeOf3
  v3 := Tryz.zeroValue3
  t4 := Tryz.underlying4
  a4 := Tryz.isAgg4
  z4 := Tryz.sizeOf4
  v4 := Tryz.zeroValue4
  t5 := Tryz.underlying5
  a5 := Tryz.isAgg5
  z5 := Tryz.sizeOf5
  v5 := Tryz.zeroValue5
  t9 := Tryz.underlying9
  a9 := Tryz.isAgg9
  z9 := Tryz.sizeOf9
  v9 := Tryz.zeroValue9
  t20 := Tryz.underlying20
  a20 := Tryz.isAgg20
  z20 := Tryz.sizeOf20
  v20 := Tryz.zeroValue20
  t37 := Tryz.underlying23
  a37 := Tryz.isAgg23
  z37 := Tryz.sizeOf23
  v37 := Tryz.zeroValue23
  t46 := Tryz.underlying69
  a46 := Tryz.isAgg69
  z46 := Tryz.sizeOf69
  v46 := Tryz.zeroValue69
  t51 := Tryz.underlying218
  a51 := Tryz.isAgg218
  z51 := Tryz.sizeOf218
  v51 := Tryz.zeroValue218
  t53 := Tryz.underlying102
  a53 := Tryz.isAgg102
  z53 := Tryz.sizeOf102
  v53 := Tryz.zeroValue102
  t75 := Tryz.underlying64
  a75 := Tryz.isAgg64
  z75 := Tryz.sizeOf64
  v75 := Tryz.zeroValue64
  t127 := Tryz.underlying98
  a127 := Tryz.isAgg98
  z127 := Tryz.sizeOf98
  v127 := Tryz.zeroValue98
  t143 := Tryz.underlying306
  a143 := Tryz.isAgg306
  z143 := Tryz.sizeOf306
  v143 := Tryz.zeroValue306
  t145 := Tryz.underlying308
  a145 := Tryz.isAgg308
  z145 := Tryz.sizeOf308
  v145 := Tryz.zeroValue308
  t167 := Tryz.underlying152
  a167 := Tryz.isAgg152
  z167 := Tryz.sizeOf152
  v167 := Tryz.zeroValue152
  t168 := Tryz.underlying155
  a168 := Tryz.isAgg155
  z168 := Tryz.sizeOf155
  v168 := Tryz.zeroValue155
  t171 := Tryz.underlying145
  a171 := Tryz.isAgg145
  z171 := Tryz.sizeOf145
  v171 := Tryz.zeroValue145
  t173 := Tryz.underlying148
  a173 := Tryz.isAgg148
  z173 := Tryz.sizeOf148
  v173 := Tryz.zeroValue148
  t210 := Tryz.underlying224
  a210 := Tryz.isAgg224
  z210 := Tryz.sizeOf224
  v210 := Tryz.zeroValue224
  t212 := Tryz.underlying217
  a212 := Tryz.isAgg217
  z212 := Tryz.sizeOf217
  v212 := Tryz.zeroValue217
  t213 := Tryz.underlying219
  a213 := Tryz.isAgg219
  z213 := Tryz.sizeOf219
  t232 := Tryz.underlying372
  a232 := Tryz.isAgg372
  z232 := Tryz.sizeOf372
  v232 := Tryz.zeroValue372
  t233 := Tryz.underlying373
  a233 := Tryz.isAgg373
  z233 := Tryz.sizeOf373
  v233 := Tryz.zeroValue373
  g15 := by kernel_rfl
  g16 := by kernel_rfl
  g17 := by kernel_rfl
  g18 := by kernel_rfl
  g19 := by kernel_rfl
  t80 := Tryz.underlying68
  a80 := Tryz.isAgg68
  z80 := Tryz.sizeOf68
  v80 := Tryz.zeroValue68
  i0 := by kernel_rfl
  i2 := by kernel_rfl
  i3 := by kernel_rfl
  i4 := by kernel_rfl
  i5 := by kernel_rfl
  i9 := by kernel_rfl
  i20 := by kernel_rfl
  i37 := by kernel_rfl
  i46 := by kernel_rfl
  i51 := by kernel_rfl
  i53 := by kernel_rfl
  i75 := by kernel_rfl
  i80 := by kernel_rfl
  i127 := by kernel_rfl
  i143 := by kernel_rfl
  i145 := by kernel_rfl
  i167 := by kernel_rfl
  i168 := by kernel_rfl
  i171 := by kernel_rfl
  i173 := by kernel_rfl
  i210 := by kernel_rfl
  i212 := by kernel_rfl
  i232 := by kernel_rfl
  i233 := by kernel_rfl
  m15 := by kernel_rfl
  m16 := by kernel_rfl
  m17 := by kernel_rfl
  m18 := by kernel_rfl
  m19 := by kernel_rfl
  c0 := by kernel_rfl
  c2 := by kernel_rfl
  c3 := by kernel_rfl
  c4 := by kernel_rfl
  c5 := by kernel_rfl
  c9 := by kernel_rfl
  c20 := by kernel_rfl
  c37 := by kernel_rfl
  c46 := by kernel_rfl
  c51 := by kernel_rfl
  c53 := by kernel_rfl
  c75 := by kernel_rfl
  c80 := by kernel_rfl
  c127 := by kernel_rfl
  c143 := by kernel_rfl
  c145 := by kernel_rfl
  c167 := by kernel_rfl
  c168 := by kernel_rfl
  c171 := by kernel_rfl
  c173 := by kernel_rfl
  c210 := by kernel_rfl
  c212 := by kernel_rfl
  c213 := by kernel_rfl
  c232 := by kernel_rfl
  c233 := by kernel_rfl }
def Tryz.lays321_ren : Go.Shelf.Ren := ⟨fun | 321 => 153 | n => n, fun | 5 => 5 | n => n, fun | n => n⟩
theorem Tryz.lays321 : Go.Proofs.Lays.n321 Tryz.prog Tryz.lays321_ren := {
  mixed := by kernel_rfl
  f321 := Tryz.func153.trans (congrArg some (by kernel_rfl))
  t5 := Tryz.underlying5
  a5 := Tryz.isAgg5
  z5 := Tryz.sizeOf5
  v5 := Tryz.zeroValue5 }
def Tryz.laysC172_ren : Go.Shelf.Ren := ⟨fun | 172 => 36 | 244 => 52 | 245 => 53 | 247 => 97 | 279 => 98 | 280 => 99 | 281 => 100 | 282 => 101 | 287 => 102 | 316 => 151 | 171 => 16 | 205 => 152 | 321 => 153 | 322 => 154 | 243 => 34 | 246 => 50 | 283 => 89 | 284 => 90 | 285 => 91 | 286 => 92 | 129 => 145 | 317 => 144 | 318 => 146 | 319 => 147 | 320 => 148 | 337 => 211 | 338 => 212 | n => n, fun | 9 => 9 | 3 => 3 | 75 => 64 | 76 => 65 | 4 => 4 | 5 => 5 | 167 => 152 | 37 => 23 | 0 => 0 | 85 => 153 | 2 => 2 | 168 => 155 | 53 => 102 | 175 => 103 | 46 => 69 | 210 => 224 | 127 => 98 | 145 => 308 | 143 => 306 | 21 => 21 | 171 => 145 | 173 => 148 | 212 => 217 | 51 => 218 | 20 => 20 | 213 => 219 | 232 => 372 | 233 => 373 | 80 => 68 | n => n, fun | 15 => 2 | 16 => 3 | 17 => 1 | 18 => 4 | 19 => 5 | n => n⟩
theorem Tryz.laysC172 : Go.Proofs.LaysC.n172 Tryz.prog Tryz.laysC172_ren := {
  mixed := by kernel_rfl
  f129 := Tryz.func145.trans (congrArg some (by kernel_rfl))
  f171 := Tryz.func16.trans (congrArg some (by kernel_rfl))
  f172 := Tryz.func36.trans (congrArg some (by kernel_rfl))
  f205 := Tryz.func152.trans (congrArg some (by kernel_rfl))
  f243 := Tryz.func34.trans (congrArg some (by kernel_rfl))
  f244 := Tryz.func52.trans (congrArg some (by kernel_rfl))
  f245 := Tryz.func53.trans (congrArg some (by kernel_rfl))
  f246 := Tryz.func50.trans (congrArg some (by kernel_rfl))
  f247 := Tryz.func97.trans (congrArg some (by kernel_rfl))
  f279 := Tryz.func98.trans (congrArg some (by kernel_rfl))
  f280 := Tryz.func99.trans (congrArg some (by kernel_rfl))
  f281 := Tryz.func100.trans (congrArg some (by kernel_rfl))
  f282 := Tryz.func101.trans (congrArg some (by kernel_rfl))
  f283 := Tryz.func89.trans (congrArg some (by kernel_rfl))
  f284 := Tryz.func90.trans (congrArg some (by kernel_rfl))
  f285 := Tryz.func91.trans (congrArg some (by kernel_rfl))
  f286 := Tryz.func92.trans (congrArg some (by kernel_rfl))
  f287 := Tryz.func102.trans (congrArg some (by kernel_rfl))
  f316 := Tryz.func151.trans (congrArg some (by kernel_rfl))
  f317 := Tryz.func144.trans (congrArg some (by kernel_rfl))
  f318 := Tryz.func146.trans (congrArg some (by kernel_rfl))
  f319 := Tryz.func147.trans (congrArg some (by kernel_rfl))
  f320 := Tryz.func148.trans (congrArg some (by kernel_rfl))
  f321 := Tryz.func153.trans (congrArg some (by kernel_rfl))
  f322 := Tryz.func154.trans (congrArg some (by kernel_rfl))
  f337 := Tryz.func211.trans (congrArg some (by kernel_rfl))
  f338 := Tryz.func212.trans (congrArg some (by kernel_rfl))
  t0 := Tryz.underlying0
  a0 := Tryz.isAgg0
  z0 := Tryz.sizeOf0
  v0 := Tryz.zeroValue0
  t2 := Tryz.underlying2
  a2 := Tryz.isAgg2
  z2 := Tryz.sizeOf2
  v2 := Tryz.zeroValue2
  t3 := Tryz.underlying3
  a3 := Tryz.isAgg3
  z3 := Tryz.sizeOf3
  v3 := Tryz.zeroValue3
  t4 := Tryz.underlying4
  a4 := Tryz.isAgg4
  z4 := Tryz.sizeOf4
  v4 := Tryz.zeroValue4
  t5 := Tryz.underlying5
  a5 := Tryz.isAgg5
  z5 := Tryz.sizeOf5
  v5 := Tryz.zeroValue5
  t9 := Tryz.underlying9
  a9 := Tryz.isAgg9
  z9 := Tryz.sizeOf9
  v9 := Tryz.zeroValue9
  t20 := Tryz.underlying20
  a20 := Tryz.isAgg20
  z20 := Tryz.sizeOf20
  v20 := Tryz.zeroValue20
  t21 := Tryz.underlying21
  a21 := Tryz.isAgg21
  z21 := Tryz.sizeOf21
  v21 := Tryz.zeroValue21
  t37 := Tryz.underlying23
  a37 := Tryz.isAgg23
  z37 := Tryz.sizeOf23
  v37 := Tryz.zeroValue23
  t46 := Tryz.underlying69
  a46 := Tryz.isAgg69
  z46 := Tryz.sizeOf69
  v46 := Tryz.zeroValue69
  t51 := Tryz.underlying218
  a51 := Tryz.isAgg218
  z51 := Tryz.sizeOf218
  v51 := Tryz.zeroValue218
  t53 := Tryz.underlying102
  a53 := Tryz.isAgg102
  z53 := Tryz.sizeOf102
  v53 := Tryz.zeroValue102
  t75 := Tryz.underlying64
  a75 := Tryz.isAgg64
  z75 := Tryz.sizeOf64
  v75 := Tryz.zeroValue64
  t76 := Tryz.underlying65
  a76 := Tryz.isAgg65
  z76 := Tryz.sizeOf65
  v76 := Tryz.zeroValue65
  t85 := Tryz.underlying153
  a85 := Tryz.isAgg153
  z85 := Tryz.sizeOf153
  v85 := Tryz.zeroValue153
  t127 := Tryz.underlying98
  a127 := Tryz.isAgg98
  z127 := Tryz.sizeOf98
  v127 := Tryz.zeroValue98
  t143 := Tryz.underlying306
  a143 := Tryz.isAgg306
  z143 := Tryz.sizeOf306
  v143 := Tryz.zeroValue306
  t145 := Tryz.underlying308
  a145 := Tryz.isAgg308
  z145 := Tryz.sizeOf308
  v145 := Tryz.zeroValue308
  t167 := Tryz.underlying152
  a167 := Tryz.isAgg152
  z167 := Tryz.sizeOf152
  v167 := Tryz.zeroValue152
  t168 := Tryz.underlying155
  a168 := Tryz.isAgg155
  z168 := Tryz.sizeOf155
  v168 := Tryz.zeroValue155
  t171 := Tryz.underlying145
  a171 := Tryz.isAgg145
  z171 := Tryz.sizeOf145
  v171 := Tryz.zeroValue145
  t173 := Tryz.underlying148
  a173 := Tryz.isAgg148
  z173 := Tryz.sizeOf148
  v173 := Tryz.zeroValue148
  t175 := Tryz.underlying103
  a175 := Tryz.isAgg103
  z175 := Tryz.sizeOf103
  v175 := Tryz.zeroValue103
  t210 := Tryz.underlying224
  a210 := Tryz.isAgg224
  z210 := Tryz.sizeOf224
  v210 := Tryz.zeroValue224
  t212 := Tryz.underlying217
  a212 := Tryz.isAgg217
  z212 := Tryz.sizeOf217
  v212 := Tryz.zeroValue217
  t213 := Tryz.underlying219
  a213 := Tryz.isAgg219
  z213 := Tryz.sizeOf219
  t232 := Tryz.underlying372
  a232 := Tryz.isAgg372
  z232 := Tryz.sizeOf372
  v232 := Tryz.zeroValue372
  t233 := Tryz.underlying373
  a233 := Tryz.isAgg373
  z233 := Tryz.sizeOf373
  v233 := Tryz.zeroValue373
  g15 := by kernel_rfl
  g16 := by kernel_rfl
  g17 := by kernel_rfl
  g18 := by kernel_rfl
  g19 := by kernel_rfl
  t80 := Tryz.underlying68
  a80 := Tryz.isAgg68
  z80 := Tryz.sizeOf68
  v80 := Tryz.zeroValue68
  i0 := by kernel_rfl
  i2 := by kernel_rfl
  i3 := by kernel_rfl
  i4 := by kernel_rfl
  i5 := by kernel_rfl
  i9 := by kernel_rfl
  i20 := by kernel_rfl
  i21 := by kernel_rfl
  i37 := by kernel_rfl
  i46 := by kernel_rfl
  i51 := by kernel_rfl
  i53 := by kernel_rfl
  i75 := by kernel_rfl
  i76 := by kernel_rfl
  i80 := by kernel_rfl
  i85 := by kernel_rfl
  i127 := by kernel_rfl
  i143 := by kernel_rfl
  i145 := by kernel_rfl
  i167 := by kernel_rfl
  i168 := by kernel_rfl
  i171 := by kernel_rfl
  i173 := by kernel_rfl
  i175 := by kernel_rfl
  i210 := by kernel_rfl
  i212 := by kernel_rfl
  i232 := by kernel_rfl
  i233 := by kernel_rfl
  m15 := by kernel_rfl
  m16 := by kernel_rfl
  m17 := by kernel_rfl
  m18 := by kernel_rfl
  m19 := by kernel_rfl
  c0 := by kernel_rfl
  c2 := by kernel_rfl
  c3 := by kernel_rfl
  c4 := by kernel_rfl
  c5 := by kernel_rfl
  c9 := by kernel_rfl
  c20 := by kernel_rfl
  c21 := by kernel_rfl
  c37 := by kernel_rfl
  c46 := by kernel_rfl
  c51 := by kernel_rfl
  c53 := by kernel_rfl
  c75 := by kernel_rfl
  c76 := by kernel_rfl
  c80 := by kernel_rfl
  c85 := by kernel_rfl
  c127 := by kernel_rfl
  c143 := by kernel_rfl
  c145 := by kernel_rfl
  c167 := by kernel_rfl
  c168 := by kernel_rfl
  c171 := by kernel_rfl
  c173 := by kernel_rfl
  c175 := by kernel_rfl
  c210 := by kernel_rfl
  c212 := by kernel_rfl
  c213 := by kernel_rfl
  c232 := by kernel_rfl
  c233 := by kernel_rfl }
end Go.Proofs
