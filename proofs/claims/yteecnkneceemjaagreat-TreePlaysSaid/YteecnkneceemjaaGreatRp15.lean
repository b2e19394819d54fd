/-
  TreePlays: what its proof leans on (part 15)
-/
import Derived.Shelf.Sort.Plain
import Derived.Shelf.Slices.In.SortNone
import Derived.Shelf.Slices.In.SortNone2
import Derived.Test.YteecnkneceemjaaGreatProg
set_option linter.unusedSimpArgs false
set_option linter.unusedVariables false
namespace Go.Proofs
open Go.Shelf
open Go.Sort Go.RowKit in
def Tryz.lays191_ren : Go.Shelf.Ren := ⟨fun | 191 => 113 | 189 => 134 | 125 => 148 | 257 => 159 | 128 => 174 | 129 => 175 | 294 => 186 | 295 => 187 | 296 => 188 | 297 => 189 | 298 => 190 | 299 => 191 | 216 => 192 | 300 => 193 | 301 => 194 | 328 => 202 | 329 => 203 | 330 => 204 | 331 => 205 | 332 => 206 | 215 => 207 | 343 => 209 | n => n, fun | 28 => 28 | 0 => 0 | 3 => 3 | 46 => 231 | 51 => 140 | 53 => 254 | 4 => 4 | 183 => 267 | 182 => 266 | 131 => 122 | 5 => 5 | 9 => 9 | 218 => 279 | 222 => 276 | 228 => 284 | 229 => 238 | n => n, fun | n => n⟩
theorem Tryz.lays191 : Go.Proofs.Lays.n191 Tryz.prog Tryz.lays191_ren := {
 mixed := by kernel_rfl
 f125 := Tryz.func148.trans (congrArg some (by kernel_rfl))
 f128 := Tryz.func174.trans (congrArg some (by kernel_rfl))
 f129 := Tryz.func175.trans (congrArg some (by kernel_rfl))
 f189 := Tryz.func134.trans (congrArg some (by kernel_rfl))
 f191 := Tryz.func113.trans (congrArg some (by kernel_rfl))
 f215 := Tryz.func207.trans (congrArg some (by kernel_rfl))
 f216 := Tryz.func192.trans (congrArg some (by kernel_rfl))
 f257 := Tryz.func159.trans (congrArg some (by kernel_rfl))
 f294 := Tryz.func186.trans (congrArg some (by kernel_rfl))
 f295 := Tryz.func187.trans (congrArg some (by kernel_rfl))
 f296 := Tryz.func188.trans (congrArg some (by kernel_rfl))
 f297 := Tryz.func189.trans (congrArg some (by kernel_rfl))
 f298 := Tryz.func190.trans (congrArg some (by kernel_rfl))
 f299 := Tryz.func191.trans (congrArg some (by kernel_rfl))
 f300 := Tryz.func193.trans (congrArg some (by kernel_rfl))
 f301 := Tryz.func194.trans (congrArg some (by kernel_rfl))
 f328 := Tryz.func202.trans (congrArg some (by kernel_rfl))
 f329 := Tryz.func203.trans (congrArg some (by kernel_rfl))
 f330 := Tryz.func204.trans (congrArg some (by kernel_rfl))
 f331 := Tryz.func205.trans (congrArg some (by kernel_rfl))
 f332 := Tryz.func206.trans (congrArg some (by kernel_rfl))
 f343 := Tryz.func209.trans (congrArg some (by kernel_rfl))
 t0 := Tryz.underlying0
 a0 := Tryz.isAgg0
 z0 := Tryz.sizeOf0
 v0 := Tryz.zeroValue0
 t3 := Tryz.underlying3
 a3 := Tryz.isAgg3
 z3 := Tryz.sizeOf3
 v3 := Tryz.zeroValue3
 t4 := Tryz.underlying4
 a4 := Tryz.isAgg4
 z4 := Tryz.sizeOf4
 v4 := Tryz.zeroValue4
 t5 := Tryz.underlying5
 a5 := Tryz.isAgg5
 z5 := Tryz.sizeOf5
 v5 := Tryz.zeroValue5
 t9 := Tryz.underlying9
 a9 := Tryz.isAgg9
 z9 := Tryz.sizeOf9
 v9 := Tryz.zeroValue9
 t28 := Tryz.underlying28
 a28 := Tryz.isAgg28
 z28 := Tryz.sizeOf28
 v28 := Tryz.zeroValue28
 t46 := Tryz.underlying231
 a46 := Tryz.isAgg231
 z46 := Tryz.sizeOf231
 v46 := Tryz.zeroValue231
 t51 := Tryz.underlying140
 a51 := Tryz.isAgg140
 z51 := Tryz.sizeOf140
 v51 := Tryz.zeroValue140
 t53 := Tryz.underlying254
 a53 := Tryz.isAgg254
 z53 := Tryz.sizeOf254
 v53 := Tryz.zeroValue254
 t131 := Tryz.underlying122
 a131 := Tryz.isAgg122
 z131 := Tryz.sizeOf122
 v131 := Tryz.zeroValue122
 t182 := Tryz.underlying266
 a182 := Tryz.isAgg266
 z182 := Tryz.sizeOf266
 v182 := Tryz.zeroValue266
 t183 := Tryz.underlying267
 a183 := Tryz.isAgg267
 z183 := Tryz.sizeOf267
 v183 := Tryz.zeroValue267
 t218 := Tryz.underlying279
 a218 := Tryz.isAgg279
 z218 := Tryz.sizeOf279
 v218 := Tryz.zeroValue279
 t222 := Tryz.underlying276
 a222 := Tryz.isAgg276
 z222 := Tryz.sizeOf276
 v222 := Tryz.zeroValue276
 t228 := Tryz.underlying284
 a228 := Tryz.isAgg284
 z228 := Tryz.sizeOf284
 v228 := Tryz.zeroValue284
 t229 := Tryz.underlying238
 a229 := Tryz.isAgg238
 z229 := Tryz.sizeOf238
 v229 := Tryz.zeroValue238 }
open Go.Sort Go.RowKit in
theorem Tryz.sort_Ints (blk off cap : Nat) (zs : List Int) (w : World) (hH : Holds (Value.int .i64) w blk off zs.toArray) (hblk : blk < w.heap.size) (hsz : zs.length < 4611686018427387904) :
 Calls Tryz.prog 113 #[.slice (some ⟨blk, off, none⟩) zs.length cap] w fun e w' =>
  e = .returned (.tuple #[]) ∧ ∃ n os, w' = grow (putRow (Value.int .i64) (Sort.ahead w n) blk off (zs.mergeSort fun x y => decide (x ≤ y)).toArray) os := Any.sort_Ints Tryz.lays191 blk off cap zs w hH hblk hsz
open Go.RowKit Go.Sort in
open Go.RowKit Go.Sort in
theorem Tryz.sort_Ints_none (p : Option Addr) (cap : Nat) (w : World) :
 Calls Tryz.prog 113 #[.slice p 0 cap] w fun e w' => e = .returned (.tuple #[]) ∧ w' = w := Any.sort_Ints_none Tryz.lays191 p cap w
end Go.Proofs
